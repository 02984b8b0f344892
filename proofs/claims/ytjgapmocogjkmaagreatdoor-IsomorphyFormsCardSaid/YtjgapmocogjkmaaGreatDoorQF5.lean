/- Texts of one proof, joined (5). -/
import Derived.OrdersIn
import Derived.TacticsIn
import Derived.RangeFuncRecord
import Derived.Sort.LoopGhostIn
import Derived.RangeFuncSeq
import Derived.Test.YtjgapmocogjkmaaGreatDoorProg
import Derived.Lib.AppendIntMem
import Derived.WalkKit
import Derived.BigCall
import Derived.BigGuard
import Derived.Lib.SmallJoins
import Derived.Lib.Walk
import Derived.Lib.SliceRun
import Derived.Lib.AppendZerosOnto
import Derived.Deep.Upon
import Derived.Test.YtjgapmocogjkmaaGreatDoorQF4
set_option linter.unusedSimpArgs false
set_option linter.unusedVariables false
namespace Go.PM
open Go Go.RowKit
@[reducible] def Fr (ro : Option Nat) : Fence := { Fence.wide with round := ro }
def mZ (ds : List Deferred) (a : Act) : Act := { a with defers := a.defers ++ ds }
theorem aOT (ds : List Deferred) (a : Act) : (mZ ds a).eval = a.eval := by
 funext x; cases x <;> rfl
theorem BF (ds : List Deferred) (a : Act) (d : Option Tmp) (v : Value) : (mZ ds a).put d v = mZ ds (a.put d v) := by
 cases d <;> rfl
theorem aJZ {ro : Option Nat} {n : Nat} {P : Program} {f : FuncId} {args : Array Value} {w : World} {R : Ending → World → Prop} (h : Calls P f args w R) : CallsIn (Fr ro) n P f args w R :=
 (callsIn_wide (n := n)).2 h
theorem aNU {ro : Option Nat} {n : Nat} {P : Program} {row : String} {args : Array Value} {w : World} {R : Value → World → Prop} (h : Rows P row args w R) : RowsIn (Fr ro) n P row args w R :=
 fun c cs _ => let ⟨v, w', r, s⟩ := h c cs; ⟨v, w', r, stepsIn_wide.2 s⟩

section
variable {P : Program} {ro : Option Nat} {n : Nat} {ds : List Deferred} {Q Q' : Exit → Act → World → Prop}
def aFF : Op → Bool
 | .defer _ => true
 | _ => false
def HT (ops : Array Oper) : Bool := ops.toList.all fun o => !aFF o.op
theorem C9 {ops : Array Oper} (h : HT ops = true) {o : Oper} (ho : o ∈ ops.toList) : ∀ c, o.op ≠ .defer c := by
 intro c hc
 have := List.all_eq_true.1 h o ho
 rw [hc] at this
 cases this
theorem aS2 {o : Oper} (h : ∀ c, o.op ≠ .defer c) (ρ : Operand → Value) : o.semAt ro ρ = execOp ρ o := by
 cases ro with
 | none => exact Oper.semAt_none ρ o
 | some l => exact Oper.semAt_some l ρ o h

theorem aE2 {o : Oper} {a : Act} {w : World} {K K' : Act → World → Prop} (hd : ∀ c, o.op ≠ .defer c) (hK : ∀ a w, K a w → K' (mZ ds a) w) (hQ : ∀ ch a w, Q (.panic ch) a w → Q' (.panic ch) (mZ ds a) w) (hno : ∀ a w, ¬ Q .outgrown a w) (h : o.wp P a w K Q) :
  o.wpIn (Fr ro) n P (mZ ds a) w K' Q' := by
 refine ⟨fun _ _ => trivial, ?_⟩
 unfold Oper.wp at h
 rw [aOT, aS2 hd]
 generalize (execOp a.eval o).run P w = r at h ⊢
 cases r with
 | ok x w' =>
  cases x with
  | value v => show K' ((mZ ds a).put o.dst v) w'; rw [BF]; exact hK _ _ h
  | skip => show K' ((mZ ds a).put o.dst undef) w'; rw [BF]; exact hK _ _ h
  | defer d =>
   have := hK _ _ h
   show K' (({ mZ ds a with defers := d :: (mZ ds a).defers } : Act).put o.dst undef) w'
   have e : (({ mZ ds a with defers := d :: (mZ ds a).defers } : Act).put o.dst undef) = mZ ds (({ a with defers := d :: a.defers } : Act).put o.dst undef) := by
    cases o.dst <;> rfl
   rw [e]; exact this
  | enter f args =>
   refine ⟨fun h => (by cases h), aJZ (Calls.mono h ?_)⟩
   rintro e w'' he
   cases e with
   | returned v => show K' ((mZ ds a).put o.dst v) w''; rw [BF]; exact hK _ _ he
   | panicked ch => exact hQ _ _ _ he
   | outgrown =>
    obtain ⟨a0, w0, h0⟩ := he
    exact (hno a0 w0 h0).elim
  | row row args => exact ⟨fun h => (by cases h), aNU (Rows.mono h fun v w'' he => by show K' ((mZ ds a).put o.dst v) w''; rw [BF]; exact hK _ _ he)⟩
  | _ => exact h.elim
 | halt x w' =>
  cases x <;> first | exact hQ _ _ _ h | exact h.elim

theorem PD {ops : Array Oper} (hno : ∀ a w, ¬ Q .outgrown a w) (hQ : ∀ e a w, Q e a w → Q' e (mZ ds a) w) : ∀ {l : List Oper}, (∀ o ∈ l, ∀ c, o.op ≠ .defer c) → ∀ {a w}, wpList P ops Q l a w → wpListIn (Fr ro) n P ops Q' l (mZ ds a) w
 | [], _, a, w, h => hQ _ _ _ h
 | o :: l, hd, a, w, h => by
  simp only [wpList] at h
  unfold wpListIn
  split at h
  ·rename_i hw
   have hw' : Region.wanted o (yielded ops (mZ ds a).tmps) = true := hw
   rw [if_pos hw']
   rcases h with h | ⟨_, a0, w0, h0⟩
   ·exact aE2 (hd o List.mem_cons_self) (fun a w hk => PD hno hQ (fun o ho => hd o (List.mem_cons_of_mem _ ho)) hk) (fun _ _ _ h => hQ _ _ _ h) hno h
   ·exact (hno a0 w0 h0).elim
  ·rename_i hw
   have hw' : ¬ Region.wanted o (yielded ops (mZ ds a).tmps) = true := hw
   rw [if_neg hw']
   refine ⟨fun _ _ => trivial, ?_⟩
   rw [BF]
   exact PD hno hQ (fun o ho => hd o (List.mem_cons_of_mem _ ho)) h

theorem aEP {ops : Array Oper} {md : Region.Mode} (hno : ∀ a w, ¬ Q .outgrown a w) (hQ : ∀ e a w, Q e a w → Q' e (mZ ds a) w) (hd : ∀ o ∈ ops.toList, ∀ c, o.op ≠ .defer c) : ∀ {fuel : Nat} {listed : Array Bool} {a w}, wpAny P md ops Q fuel listed a w → wpAnyIn (Fr ro) n P md ops Q' fuel listed (mZ ds a) w
 | 0, listed, a, w, h => ⟨h.1, hQ _ _ _ h.2⟩
 | fuel + 1, listed, a, w, h => by
  refine ⟨fun hr => hQ _ _ _ (h.1 hr), fun i hi => ?_⟩
  have h2 := h.2 i hi
  unfold wpOp at h2
  unfold wpOpIn
  split
  ·rename_i hn
   rw [hn] at h2
   exact aEP hno hQ hd h2
  ·rename_i o ho
   rw [ho] at h2
   simp only at h2
   have hm : o ∈ ops.toList := by
    rw [← Array.getElem?_toList] at ho
    exact List.mem_of_getElem? ho
   split at h2
   ·rename_i hw
    have hw' : Region.wanted o (yielded ops (mZ ds a).tmps) = true := hw
    rw [if_pos hw']
    rcases h2 with h2 | ⟨_, a0, w0, h0⟩
    ·exact aE2 (hd o hm) (fun a w hk => aEP hno hQ hd hk) (fun _ _ _ h => hQ _ _ _ h) hno h2
    ·exact (hno a0 w0 h0).elim
   ·rename_i hw
    have hw' : ¬ Region.wanted o (yielded ops (mZ ds a).tmps) = true := hw
    rw [if_neg hw']
    refine ⟨fun _ _ => trivial, ?_⟩
    rw [BF]
    exact aEP hno hQ hd h2
end
def Marks (wi w : World) (G : Gd) : List Deferred → Prop
 | [] => True
 | d :: ds => (∃ b, d = { target := .collected b, args := #[] } ∧ w.heap[b]? = some (.deferred (some [])) ∧ wi.heap.size ≤ b ∧ ¬ G b ∧ ∀ d' ∈ ds, d' ≠ d) ∧ Marks wi w G ds
theorem Marks.mem {wi w : World} {G : Gd} : ∀ {ds : List Deferred}, Marks wi w G ds → ∀ d ∈ ds, ∃ b, d = { target := .collected b, args := #[] } ∧ w.heap[b]? = some (.deferred (some [])) ∧ wi.heap.size ≤ b ∧ ¬ G b
 | [], _, d, hd => by cases hd
 | x :: ds, h, d, hd => by
  rcases List.mem_cons.1 hd with rfl | hd
  ·obtain ⟨b, h1, h2, h3, h4, _⟩ := h.1
   exact ⟨b, h1, h2, h3, h4⟩
  ·exact Marks.mem h.2 d hd
theorem Marks.to {wi w w' : World} {G G' : Gd} : ∀ {ds : List Deferred}, Marks wi w G ds → (∀ b, ({ target := .collected b, args := #[] } : Deferred) ∈ ds → w.heap[b]? = some (.deferred (some [])) → ¬ G b → w'.heap[b]? = some (.deferred (some [])) ∧ ¬ G' b) → Marks wi w' G' ds
 | [], _, _ => trivial
 | x :: ds, h, hs => by
  obtain ⟨⟨b, rfl, h2, h3, h4, h5⟩, h6⟩ := h
  obtain ⟨k1, k2⟩ := hs b List.mem_cons_self h2 h4
  exact ⟨⟨b, rfl, k1, h3, k2, h5⟩, Marks.to h6 fun b hb => hs b (List.mem_cons_of_mem _ hb)⟩

def IM (n0 : Nat → Prop) (wi : World) (Gi : Gd) (μi : Mp) (nt : Nat) (F : Frm) (H : Heap) (a : Act) (w : World) : Prop :=
 ∃ G μ, Ext n0 wi Gi μi w G μ ∧ aV n0 G μ H w ∧ eF w G μ nt F { a with defers := [] } ∧ Marks wi w G a.defers

section
variable {P : Program} {E : Env} {n0 n1 : Nat → Prop} {w w' wi : World} {G G' Gi : Gd} {μ μ' μi : Mp} {H : Heap} {F : Frm} {a : Act} {nt : Nat}
theorem Ext.wider (h : Ext n1 w G μ w' G' μ') (hn : ∀ b, n1 b → n0 b) : Ext n0 w G μ w' G' μ' :=
 ⟨h.toMono, h.os, h.tape, h.output, h.size, h.drawn, fun b hb hnb => h.old b hb fun h1 => hnb (hn b h1), fun b hb => (h.new b hb).imp id (hn b)⟩
theorem aV.wider (h : aV n1 G μ H w) (hn : ∀ b, n1 b → n0 b) : aV n0 G μ H w :=
 ⟨fun r k b hr hb => by
  obtain ⟨c, h1, h2, h3, h4, h5⟩ := h.blk r k b hr hb
  exact ⟨c, h1, h2, h3, h4, fun hf => ⟨hn b (h5 hf).1, (h5 hf).2⟩⟩, h.tags, h.inj, h.lt, h.top, fun b hb => hn b (h.base b hb), h.rows.QV fun _ b _ => hn b⟩
theorem aV.less (h : aV n0 G μ H w) {S : Nat → Prop} (hS : ∀ b, S b → b < w.heap.size ∧ ∀ c t fr, w.heap[b]? ≠ some (.cells c t fr)) : aV (fun b => n0 b ∧ ¬ S b) G μ H w :=
 ⟨fun r k b hr hb => by
  obtain ⟨c, h1, h2, h3, h4, h5⟩ := h.blk r k b hr hb
  exact ⟨c, h1, h2, h3, h4, fun hf => ⟨⟨(h5 hf).1, fun hs => (hS b hs).2 _ _ _ h1⟩, (h5 hf).2⟩⟩, h.tags, h.inj, h.lt, h.top, fun b hb => ⟨h.base b hb, fun hs => Nat.lt_irrefl _ (Nat.lt_of_lt_of_le (hS b hs).1 hb)⟩, h.rows.QV fun j b hj hn => ⟨hn, fun hs => by obtain ⟨c, t, fr, hc⟩ := h.rows.cel j b hj; exact (hS b hs).2 c t fr hc⟩⟩
theorem eF.same (h : eF w G μ nt F a) : eF w G μ nt F { a with defers := [] } := ⟨h.size, h.slot, rfl⟩
theorem I.a3U (h : I n0 wi Gi μi nt F H a w) : IM n0 wi Gi μi nt F H a w := by
 obtain ⟨G, μ, e, hW, hF⟩ := h
 refine ⟨G, μ, e, hW, hF.same, ?_⟩
 rw [hF.defers]; trivial


theorem YD {nt : Nat} {id : Nat} {ops : Array Oper} {draw : Bool} {F : Frm} {H : Heap} {α : Type} {z : α} {k : Frm → Heap → Option α} (hcl : cN P (dF P E)) (hP : P.follows .mixedOrders = true) (hd : HT ops = true) (h : qW P E nt ops draw F H k = some z) :
  ∃ F' H', k F' H' = some z ∧ ∀ {ro : Option Nat} {n : Nat} {n0 wi Gi μi} {a w} {Q : Exit → Act → World → Prop}, IM n0 wi Gi μi nt F H a w → (∀ a' w', a'.defers = a.defers → IM n0 wi Gi μi nt F' H' a' w' → Q .normal a' w') → (Code.region id ops draw).wpIn (Fr ro) n P Q a w := by
 have core : ∃ F' H', k F' H' = some z ∧ ∀ {ro : Option Nat} {n : Nat} {n0 wi Gi μi} {a w} {ds : List Deferred} {Q : Exit → Act → World → Prop}, I n0 wi Gi μi nt F H a w → (∀ a' w', I n0 wi Gi μi nt F' H' a' w' → Q .normal (mZ ds a') w') → (Code.region id ops draw).wpIn (Fr ro) n P Q (mZ ds a) w := by
  cases draw with
  | true =>
   obtain ⟨F', H', h2, h3⟩ := GY h
   refine ⟨F', H', h3, ?_⟩
   intro ro n n0 wi Gi μi a w ds Q hI hQ
   refine wpIn_region_any hP (aEP (Q := fun e a' w' => e = .normal ∧ I n0 wi Gi μi nt F' H' a' w') (fun a w h => by cases h.1) (fun e a' w' h => by obtain ⟨rfl, h⟩ := h; exact hQ a' w' h) (fun o ho => C9 hd ho) ?_)
   exact LB hcl h2 hI (fun a' w' h => ⟨rfl, h⟩)
  | false =>
   unfold qW at h
   simp only [cond_false] at h
   obtain ⟨F', H', h2, h3⟩ := oR h
   refine ⟨F', H', h3, ?_⟩
   intro ro n n0 wi Gi μi a w ds Q hI hQ
   refine wpIn_region_list (PD (Q := fun e a' w' => e = .normal ∧ I n0 wi Gi μi nt F' H' a' w') (fun a w h => by cases h.1) (fun e a' w' h => by obtain ⟨rfl, h⟩ := h; exact hQ a' w' h) (fun o ho => C9 hd ho) ?_)
   exact qX hcl ops.toList F H _ _ h2 hI (fun a' w' h => ⟨rfl, h⟩)
 obtain ⟨F', H', h1, h2⟩ := core
 refine ⟨F', H', h1, ?_⟩
 intro ro n n0 wi Gi μi a w Q hI hQ
 obtain ⟨G, μ, e, hW, hF, hm⟩ := hI
 have hS : ∀ b, ({ target := .collected b, args := #[] } : Deferred) ∈ a.defers → b < w.heap.size ∧ ∀ c t fr, w.heap[b]? ≠ some (.cells c t fr) := by
  intro b hb
  obtain ⟨b', e1, e2, _⟩ := hm.mem _ hb
  have : b = b' := by injection e1 with e1 _; injection e1
  subst this
  exact ⟨eW e2, fun c t fr h => by rw [e2] at h; cases h⟩
 have e0 : a = mZ a.defers { a with defers := [] } := rfl
 rw [e0]
 refine h2 (n0 := fun b => n0 b ∧ ¬ ({ target := .collected b, args := #[] } : Deferred) ∈ a.defers) (wi := w) (Gi := G) (μi := μ) ⟨G, μ, Ext.refl _ _ _ _, hW.less hS, hF⟩ ?_
 rintro a' w' ⟨G', μ', e', hW', hF'⟩
 have hW2 : aV n0 G' μ' H' w' := hW'.wider fun b hb => hb.1
 have hdef : (mZ a.defers a').defers = a.defers := by
  show a'.defers ++ a.defers = a.defers
  rw [hF'.defers]; rfl
 refine hQ _ _ hdef ⟨G', μ', e.trans (e'.wider fun b hb => hb.1), hW2, hF'.same, ?_⟩
 rw [hdef]
 refine hm.to fun b hb h1 h2 => ⟨?_, fun hg => ?_⟩
 ·rw [e'.old b (hS b hb).1 (fun h => h.2 hb)]; exact h1
 ·rcases e'.new b hg with h | h
  ·exact h2 h
  ·exact h.2 hb
end
end Go.PM
set_option linter.unusedSimpArgs false
set_option linter.unusedVariables false
namespace Go.PM
open Go Go.RowKit
def D3 (T : List Nat) : (l : List (Ex × List (Nat × Kd))) → Ex → Frm → Heap → Option (aU l)
 | [], _, _, _ => none
 | [(e, s)], ex, F, H => bif aHH e ex then pF T s F H else none
 | (e, s) :: b :: r, ex, F, H => bif aHH e ex then (match pF T s F H with | some x => some (.inl x) | none => none) else (match D3 T (b :: r) ex F H with | some y => some (.inr y) | none => none)
section
variable {α : Type} (P : Program) (E : Env) (nt aT : Nat) (lt rt : Nat → Option aR) (rd : Bool) (T : List Nat)
def rI : Code → Frm → Heap → (Ex → Frm → Heap → Option α) → Option α
 | .skip, F, H, k => k .normal F H
 | .label _, F, H, k => k .normal F H
 | .region _ ops draw, F, H, k => bif HT ops then qW P E nt ops draw F H fun F H => IF aT F fun F => k .normal F H else none
 | .seq a b, F, H, k => rI a F H fun ex F H => match ex with
  | .normal => rI b F H k
  | .exit i => k (.exit i) F H
  | .ret => k .ret F H
 | .cond c a b, F, H, k => match ev F c with
  | .lit (.bool t) => aI5 F c t fun F t => bif t then rI a F H k else rI b F H k
  | _ => none
 | .block id a, F, H, k => rI a F H fun ex F H => match ex with
  | .exit i => bif Nat.beq i id then k .normal F H else k (.exit i) F H
  | .normal => k .normal F H
  | .ret => k .ret F H
 | .loop a, F, H, k => match lt (aG a) with
  | some s => match pF T s.sh F H with
   | some x => aB (s.run x) fun z => aKF s.exits z k
   | none => none
  | none => none
 | .rangeFunc _ _ _ a, F, H, k => bif rd then none else match rt (aG a) with
  | some s => match pF T s.sh F H with
   | some x => aB (s.run x) fun z => aKF s.exits z k
   | none => none
  | none => none
 | .exit id, F, H, k => k (.exit id) F H
 | .ret, F, H, k => k .ret F H
 | _, _, _, _ => none
def VJ (T : List Nat) (sh : List (Nat × Kd)) (exits : List (Ex × List (Nat × Kd))) (ex : Ex) (F : Frm) (H : Heap) : Option (Shape.den sh ⊕ aU exits) := match ex with
 | .normal => match pF T sh F H with
  | some y => some (.inl y)
  | none => none
 | .exit i => match D3 T exits (.exit i) F H with
  | some z => some (.inr z)
  | none => none
 | .ret => match D3 T exits .ret F H with
  | some z => some (.inr z)
  | none => none
def Y9 (a : Code) (sh : List (Nat × Kd)) (exits : List (Ex × List (Nat × Kd))) (x : Shape.den sh) : Option (Shape.den sh ⊕ aU exits) :=
 rI P E nt aT lt rt rd T a (oY sh x 0) (vR sh x) (VJ T sh exits)
end
def cC : Code → List Code
 | .seq a b => cC a ++ cC b
 | .cond _ a b => cC a ++ cC b
 | .block _ a => cC a
 | .loop a => [.loop a]
 | .rangeFunc g ps as1 a => [.rangeFunc g ps as1 a]
 | _ => []

section
variable {α : Type} {P : Program} {E : Env} {nt aT : Nat} {lt rt : Nat → Option aR} {rd : Bool} {T : List Nat}
def aHD (P : Program) (nt : Nat) (rd : Bool) (T : List Nat) (c : Code) (F : Frm) (H : Heap) (r : Ex × Frm × Heap) : Prop :=
 ∀ (ro : Option Nat) (n : Nat) (n0 : Nat → Prop) (wi : World) (Gi : Gd) (μi : Mp) (a : Act) (w : World), (rd = false → ro = none) → (∀ r, ¬ r ∈ T → μi.loc r = none ∧ μi.len r = none) → IM n0 wi Gi μi nt F H a w →
  c.wpIn (Fr ro) n P (fun e a' w' => e = r.1.to ∧ IM n0 wi Gi μi nt r.2.1 r.2.2 a' w' ∧ (rd = true → a'.defers = a.defers)) a w
def uR (P : Program) (nt : Nat) (rd : Bool) (T : List Nat) (c : Code) (s : aR) : Prop :=
 ∀ x z, s.run x = some z → aHD P nt rd T c (oY s.sh x 0) (vR s.sh x) (qY s.exits z)
def EW (P : Program) (nt : Nat) (lt rt : Nat → Option aR) (rd : Bool) (T : List Nat) : Code → Prop
 | .loop a => ∀ s, lt (aG a) = some s → uR P nt rd T (.loop a) s
 | .rangeFunc g ps as1 a => rd = false → ∀ s, rt (aG a) = some s → uR P nt rd T (.rangeFunc g ps as1 a) s
 | _ => True

theorem IM.aN1 {n0 : Nat → Prop} {wi : World} {Gi : Gd} {μi : Mp} {F F' : Frm} {H : Heap} {a : Act} {w : World} (h : IM n0 wi Gi μi nt F H a w) (hF : ∀ t, cM F' t = cM F t ∨ cM F' t = .junk) : IM n0 wi Gi μi nt F' H a w := by
 obtain ⟨G, μ, e, hW, hI, hm⟩ := h
 refine ⟨G, μ, e, hW, ⟨hI.size, fun t => ?_, rfl⟩, hm⟩
 rcases hF t with h1 | h1
 ·rw [h1]; exact hI.slot t
 ·rw [h1, VR]; trivial
theorem IM.same {n0 : Nat → Prop} {wi : World} {Gi : Gd} {μi : Mp} {F F' : Frm} {H H' : Heap} {a : Act} {w : World} (hfl : ∀ r, ¬ r ∈ T → μi.loc r = none ∧ μi.len r = none)
  (hs : ∀ {n0 : Nat → Prop} {wi : World} {Gi : Gd} {μi : Mp} {a : Act}, (∀ r, ¬ r ∈ T → μi.loc r = none ∧ μi.len r = none) → I n0 wi Gi μi nt F H a w → I n0 wi Gi μi nt F' H' a w) (h : IM n0 wi Gi μi nt F H a w) : IM n0 wi Gi μi nt F' H' a w := by
 obtain ⟨G, μ, e, hW, hF, hm⟩ := h
 have hS : ∀ b, ({ target := .collected b, args := #[] } : Deferred) ∈ a.defers → b < w.heap.size ∧ ∀ c t fr, w.heap[b]? ≠ some (.cells c t fr) := by
  intro b hb
  obtain ⟨b', e1, e2, _⟩ := hm.mem _ hb
  have : b = b' := by injection e1 with e1 _; injection e1
  subst this
  exact ⟨eW e2, fun c t fr h => by rw [e2] at h; cases h⟩
 have e0 : Ext (fun b => n0 b ∧ ¬ ({ target := .collected b, args := #[] } : Deferred) ∈ a.defers) w G μi w G μ := ⟨⟨fun _ h => ⟨h, rfl⟩, e.map, e.len, fun _ _ h => h, fun _ _ h => h⟩, rfl, rfl, rfl, Nat.le_refl _, Nat.le_refl _, fun _ _ _ => rfl, fun _ h => .inl h⟩
 obtain ⟨G', μ', e', hW', hF'⟩ := hs (n0 := fun b => n0 b ∧ ¬ ({ target := .collected b, args := #[] } : Deferred) ∈ a.defers) (wi := w) (Gi := G) (μi := μi) (a := { a with defers := [] }) hfl ⟨G, μ, e0, hW.less hS, hF⟩
 refine ⟨G', μ', ?_, hW'.wider fun b hb => hb.1, hF', hm.to fun b hb h1 h2 => ⟨h1, fun hg => ?_⟩⟩
 ·exact {
   good := fun b hb => ⟨(e'.good b (e.good b hb).1).1, (e.good b hb).2⟩
   map := e'.map
   len := e'.len
   room := e.room
   row := fun j b hj => e'.row j b (e.row j b hj)
   os := e.os
   tape := e.tape
   output := e.output
   size := e.size
   drawn := e.drawn
   old := e.old
   new := fun b hb => by
    rcases e'.new b hb with h | h
    ·exact e.new b h
    ·exact .inr h.1 }
 ·rcases e'.new b hg with h | h
  ·exact h2 h
  ·exact h.2 hb

theorem IM.dec {n0 : Nat → Prop} {wi : World} {Gi : Gd} {μi : Mp} {F : Frm} {H : Heap} {a : Act} {w : World} (hfl : ∀ r, ¬ r ∈ T → μi.loc r = none ∧ μi.len r = none) {sh : List (Nat × Kd)} {x : Shape.den sh} (h : pF T sh F H = some x) (hI : IM n0 wi Gi μi nt F H a w) : IM n0 wi Gi μi nt (oY sh x 0) (vR sh x) a w :=
 hI.same hfl fun hfl hI => uU h hfl hI
theorem zD {ex : Ex} {F : Frm} {H : Heap} : ∀ {l : List (Ex × List (Nat × Kd))} {z : aU l}, D3 T l ex F H = some z →
  (qY l z).1 = ex ∧ ∃ sh, ∃ x : Shape.den sh, pF T sh F H = some x ∧ (qY l z).2.1 = oY sh x 0 ∧ (qY l z).2.2 = vR sh x
 | [], z, _ => Empty.elim z
 | [(e, s)], z, h => by
  simp only [D3] at h
  obtain ⟨hb, h⟩ := aI h
  exact ⟨WU hb, s, z, h, rfl, rfl⟩
 | (e, s) :: b :: r, z, h => by
  simp only [D3] at h
  cases hb : aHH e ex with
  | true =>
   rw [hb] at h
   simp only [cond_true] at h
   split at h
   ·rename_i x hx
    simp only [Option.some.injEq] at h
    subst h
    exact ⟨WU hb, s, x, hx, rfl, rfl⟩
   ·cases h
  | false =>
   rw [hb] at h
   simp only [cond_false] at h
   split at h
   ·rename_i x hx
    simp only [Option.some.injEq] at h
    subst h
    exact zD (l := b :: r) (z := x) hx
   ·cases h
theorem IM.MK {n0 : Nat → Prop} {wi : World} {Gi : Gd} {μi : Mp} {F : Frm} {H : Heap} {a : Act} {w : World} {ex : Ex} (hfl : ∀ r, ¬ r ∈ T → μi.loc r = none ∧ μi.len r = none) {l : List (Ex × List (Nat × Kd))} {z : aU l} (h : D3 T l ex F H = some z) (hI : IM n0 wi Gi μi nt F H a w) :
  (qY l z).1 = ex ∧ IM n0 wi Gi μi nt (qY l z).2.1 (qY l z).2.2 a w := by
 obtain ⟨h1, sh, x, h2, h3, h4⟩ := zD h
 exact ⟨h1, by rw [h3, h4]; exact hI.dec hfl h2⟩

theorem jE (hcl : cN P (dF P E)) (hP : P.follows .mixedOrders = true) : ∀ (c : Code) (F : Frm) (H : Heap) (k : Ex → Frm → Heap → Option α) (z : α), (∀ a ∈ cC c, EW P nt lt rt rd T a) →
  rI P E nt aT lt rt rd T c F H k = some z → ∃ r : Ex × Frm × Heap, k r.1 r.2.1 r.2.2 = some z ∧ aHD P nt rd T c F H r
 | .skip, F, H, k, z, hl, h => ⟨(.normal, F, H), h, fun _ _ _ _ _ _ _ _ _ _ hI => wpIn_skip ⟨rfl, hI, fun _ => rfl⟩⟩
 | .label l, F, H, k, z, hl, h => ⟨(.normal, F, H), h, fun _ _ _ _ _ _ _ _ _ _ hI => wpIn_label ⟨rfl, hI, fun _ => rfl⟩⟩
 | .region id ops draw, F, H, k, z, hl, h => by
  simp only [rI] at h
  obtain ⟨hd, h⟩ := aI h
  obtain ⟨F1, H1, h1, h2⟩ := YD (id := id) hcl hP hd h
  obtain ⟨F2, h3, h4⟩ := vZ aT F1 fun F => k .normal F H1
  rw [h3] at h1
  exact ⟨(.normal, F2, H1), h1, fun _ _ _ _ _ _ _ _ _ _ hI => h2 hI fun a' w' hd' hI' => ⟨rfl, hI'.aN1 h4, fun _ => hd'⟩⟩
 | .seq x y, F, H, k, z, hl, h => by
  simp only [rI] at h
  obtain ⟨⟨ex, F1, H1⟩, h1, h2⟩ := jE hcl hP x F H _ z (fun a ha => hl a (by simp [cC, ha])) h
  cases ex with
  | normal =>
   obtain ⟨r, h3, h4⟩ := jE hcl hP y F1 H1 k z (fun a ha => hl a (by simp [cC, ha])) h1
   refine ⟨r, h3, fun ro n n0 wi Gi μi a w hro hfl hI => wpIn_seq (wpIn_mono (h2 ro n n0 wi Gi μi a w hro hfl hI) ?_)⟩
   rintro e a' w' ⟨rfl, hI', hd'⟩
   refine wpIn_mono (h4 ro n n0 wi Gi μi a' w' hro hfl hI') ?_
   rintro e a'' w'' ⟨e1, e2, e3⟩
   exact ⟨e1, e2, fun hr => (e3 hr).trans (hd' hr)⟩
  | exit i =>
   refine ⟨(.exit i, F1, H1), h1, fun ro n n0 wi Gi μi a w hro hfl hI => wpIn_seq (wpIn_mono (h2 ro n n0 wi Gi μi a w hro hfl hI) ?_)⟩
   rintro e a' w' ⟨rfl, hI'⟩
   exact ⟨rfl, hI'⟩
  | ret =>
   refine ⟨(.ret, F1, H1), h1, fun ro n n0 wi Gi μi a w hro hfl hI => wpIn_seq (wpIn_mono (h2 ro n n0 wi Gi μi a w hro hfl hI) ?_)⟩
   rintro e a' w' ⟨rfl, hI'⟩
   exact ⟨rfl, hI'⟩
 | .cond c x y, F, H, k, z, hl, h => by
  simp only [rI] at h
  split at h
  ·rename_i t ht
   replace h := AG h ht
   have hc : ∀ {n0 wi Gi μi a w}, IM n0 wi Gi μi nt F H a w → a.eval c = .bool t := fun {n0 wi Gi μi a w} hI => by
    obtain ⟨G, μ, e, hW, hF, _⟩ := hI
    have hc := cF hF c
    rw [ht, VR] at hc
    rw [← hc]
    cases c <;> rfl
   cases t with
   | true =>
    obtain ⟨r, h3, h4⟩ := jE hcl hP x F H k z (fun a ha => hl a (by simp [cC, ha])) h
    exact ⟨r, h3, fun ro n n0 wi Gi μi a w hro hfl hI => wpIn_cond (hc hI) (h4 ro n n0 wi Gi μi a w hro hfl hI)⟩
   | false =>
    obtain ⟨r, h3, h4⟩ := jE hcl hP y F H k z (fun a ha => hl a (by simp [cC, ha])) h
    exact ⟨r, h3, fun ro n n0 wi Gi μi a w hro hfl hI => wpIn_cond (hc hI) (h4 ro n n0 wi Gi μi a w hro hfl hI)⟩
  ·cases h
 | .block id x, F, H, k, z, hl, h => by
  simp only [rI] at h
  obtain ⟨⟨ex, F1, H1⟩, h1, h2⟩ := jE hcl hP x F H _ z (fun a ha => hl a (by simp [cC, ha])) h
  cases ex with
  | normal =>
   refine ⟨(.normal, F1, H1), h1, fun ro n n0 wi Gi μi a w hro hfl hI => wpIn_block (wpIn_mono (h2 ro n n0 wi Gi μi a w hro hfl hI) ?_)⟩
   rintro e a' w' ⟨rfl, hI'⟩
   exact ⟨rfl, hI'⟩
  | ret =>
   refine ⟨(.ret, F1, H1), h1, fun ro n n0 wi Gi μi a w hro hfl hI => wpIn_block (wpIn_mono (h2 ro n n0 wi Gi μi a w hro hfl hI) ?_)⟩
   rintro e a' w' ⟨rfl, hI'⟩
   exact ⟨rfl, hI'⟩
  | exit i =>
   simp only at h1
   cases hi : Nat.beq i id with
   | true =>
    rw [hi] at h1
    have := Nat.eq_of_beq_eq_true hi
    subst this
    refine ⟨(.normal, F1, H1), h1, fun ro n n0 wi Gi μi a w hro hfl hI => wpIn_block (wpIn_mono (h2 ro n n0 wi Gi μi a w hro hfl hI) ?_)⟩
    rintro e a' w' ⟨rfl, hI'⟩
    simp only [Ex.to, Exit.inBlock, if_true]
    exact ⟨trivial, hI'⟩
   | false =>
    rw [hi] at h1
    have hne : ¬ i = id := fun e => by rw [e] at hi; simp at hi
    refine ⟨(.exit i, F1, H1), h1, fun ro n n0 wi Gi μi a w hro hfl hI => wpIn_block (wpIn_mono (h2 ro n n0 wi Gi μi a w hro hfl hI) ?_)⟩
    rintro e a' w' ⟨rfl, hI'⟩
    simp only [Ex.to, Exit.inBlock, hne, if_false]
    exact ⟨trivial, hI'⟩
 | .loop x, F, H, k, z, hl, h => by
  simp only [rI] at h
  split at h
  ·rename_i s hs
   split at h
   ·rename_i x0 hx
    obtain ⟨y, h1, h2⟩ := nQ h
    exact ⟨qY s.exits y, AD h2, fun ro n n0 wi Gi μi a w hro hfl hI => hl (.loop x) (by simp [cC]) s hs x0 y h1 ro n n0 wi Gi μi a w hro hfl (hI.dec hfl hx)⟩
   ·cases h
  ·cases h
 | .rangeFunc g ps as1 x, F, H, k, z, hl, h => by
  simp only [rI] at h
  cases hrd : rd with
  | true => rw [hrd] at h; cases h
  | false =>
   rw [hrd] at h
   simp only [cond_false] at h
   split at h
   ·rename_i s hs
    split at h
    ·rename_i x0 hx
     obtain ⟨y, h1, h2⟩ := nQ h
     refine ⟨qY s.exits y, AD h2, fun ro n n0 wi Gi μi a w hro hfl hI => ?_⟩
     have := hl (.rangeFunc g ps as1 x) (by simp [cC]) hrd s hs x0 y h1 ro n n0 wi Gi μi a w (by rw [hrd]; exact hro) hfl (hI.dec hfl hx)
     rw [hrd] at this
     exact this
    ·cases h
   ·cases h
 | .exit id, F, H, k, z, hl, h => ⟨(.exit id, F, H), h, fun _ _ _ _ _ _ _ _ _ _ hI => wpIn_exit ⟨rfl, hI, fun _ => rfl⟩⟩
 | .scope x, F, H, k, z, hl, h => by simp only [rI] at h; cases h
 | .ret, F, H, k, z, hl, h => ⟨(.ret, F, H), h, fun _ _ _ _ _ _ _ _ _ _ hI => wpIn_ret ⟨rfl, hI, fun _ => rfl⟩⟩
 | .goto l, F, H, k, z, hl, h => by simp only [rI] at h; cases h
 | .refuse s, F, H, k, z, hl, h => by simp only [rI] at h; cases h

theorem EM {sh : List (Nat × Kd)} {exits : List (Ex × List (Nat × Kd))} {ex : Ex} {F : Frm} {H : Heap} {y : Shape.den sh ⊕ aU exits} (h : VJ T sh exits ex F H = some y) :
  (∃ x, y = .inl x ∧ ex = .normal ∧ pF T sh F H = some x) ∨ (∃ z, y = .inr z ∧ ex ≠ .normal ∧ D3 T exits ex F H = some z) := by
 cases ex with
 | normal =>
  simp only [VJ] at h
  split at h
  ·rename_i x hx
   exact .inl ⟨x, (Option.some.inj h).symm, rfl, hx⟩
  ·cases h
 | exit i =>
  simp only [VJ] at h
  split at h
  ·rename_i x hx
   exact .inr ⟨x, (Option.some.inj h).symm, by simp, hx⟩
  ·cases h
 | ret =>
  simp only [VJ] at h
  split at h
  ·rename_i x hx
   exact .inr ⟨x, (Option.some.inj h).symm, by simp, hx⟩
  ·cases h

theorem P1 (hcl : cN P (dF P E)) (hP : P.follows .mixedOrders = true) {a : Code} {sh : List (Nat × Kd)} {exits : List (Ex × List (Nat × Kd))} {step : Shape.den sh → Option (Shape.den sh ⊕ aU exits)} (L : Nat)
  (hl : ∀ b ∈ cC a, EW P nt lt rt rd T b) (hr : ∀ x, Y9 P E nt aT lt rt rd T a sh exits x = step x) : uR P nt rd T (.loop a) ⟨sh, exits, bU step L⟩ := by
 intro x z hz ro n n0 wi Gi μi act w hro hfl hI
 refine wpIn_loop_ghost (fun k a w => (∃ x, bU step k x = some z ∧ IM n0 wi Gi μi nt (oY sh x 0) (vR sh x) a w) ∧ (rd = true → a.defers = act.defers)) L ⟨⟨x, hz, hI⟩, fun _ => rfl⟩ ?_
 rintro k act1 w ⟨⟨x, hz, hI⟩, hdef⟩
 cases k with
 | zero => cases hz
 | succ k =>
  simp only [bU] at hz
  split at hz
  ·rename_i y hs
   rw [← hr] at hs
   obtain ⟨⟨ex, F', H'⟩, h1, h2⟩ := jE hcl hP a _ _ _ _ hl hs
   refine wpIn_mono (h2 ro n n0 wi Gi μi act1 w hro hfl hI) ?_
   rintro e a' w' ⟨rfl, hI', hd'⟩
   rcases EM h1 with ⟨y', e1, e2, e3⟩ | ⟨z', e1, _, _⟩
   ·cases e1
    dsimp only at e2
    subst e2
    exact ⟨k, by omega, ⟨y, hz, hI'.dec hfl e3⟩, fun hr => (hd' hr).trans (hdef hr)⟩
   ·cases e1
  ·rename_i y hs
   simp only [Option.some.injEq] at hz
   subst hz
   rw [← hr] at hs
   obtain ⟨⟨ex, F', H'⟩, h1, h2⟩ := jE hcl hP a _ _ _ _ hl hs
   refine wpIn_mono (h2 ro n n0 wi Gi μi act1 w hro hfl hI) ?_
   rintro e a' w' ⟨rfl, hI', hd'⟩
   rcases EM h1 with ⟨y', e1, e2, e3⟩ | ⟨z', e1, e2, e3⟩
   ·cases e1
   ·cases e1
    dsimp only at e2 e3 hI'
    obtain ⟨h3, h5⟩ := hI'.MK hfl e3
    have h6 : (rd = true → a'.defers = act.defers) := fun hr => (hd' hr).trans (hdef hr)
    cases ex with
    | normal => exact absurd rfl e2
    | exit i => exact ⟨by rw [h3], h5, h6⟩
    | ret => exact ⟨by rw [h3], h5, h6⟩
  ·cases hz
end
end Go.PM
set_option linter.unusedSimpArgs false
set_option linter.unusedVariables false
namespace Go.PM
open Go Go.RowKit
def OM : Kd → Nat → List Nat
 | .own _ _, n | .box _ _, n | .bown _ _ _, n | .bag _ _ _ _ _, n => [n]
 | .win j _, _ => [j]
 | _, _ => []
def rP : List (Nat × Kd) → Nat → List Nat
 | [], _ => []
 | (_, k) :: r, n => OM k n ++ rP r (n + k.pos)
structure Stp (S : Nat → Prop) (B A : World) : Prop where
 aT : ∀ b, b < B.heap.size → ¬ S b → A.heap[b]? = B.heap[b]?
 room : ∀ b n, Room B b n → Room A b n
 os : A.os = B.os
 tape : A.tape = B.tape
 output : A.output = B.output
 size : B.heap.size ≤ A.heap.size
 drawn : B.drawn ≤ A.drawn
theorem Stp.trans {S : Nat → Prop} {A B C : World} (h : Stp S A B) (k : Stp S B C) : Stp S A C :=
 ⟨fun b hb hs => (k.aT b (Nat.lt_of_lt_of_le hb h.size) hs).trans (h.aT b hb hs), fun b n hr => k.room b n (h.room b n hr), k.os.trans h.os, k.tape.trans h.tape, k.output.trans h.output, Nat.le_trans h.size k.size, Nat.le_trans h.drawn k.drawn⟩

def OX (P : Program) (gf : FuncId) (ts : List Ty) (ks : List Kd) (f : uC ts → Option (List (aH ks))) : Prop :=
 ∀ x all, f x = some all → ∀ (m l : Nat) (W : World) (G : Nat → Prop) (vs : List Value), Lt W G → VRs W (Gd.of G) aK (G9 ts x) vs →
  ∀ (J Jx : List (aH ks) → (Nat → Prop) → (Nat → Prop) → World → Prop),
  (∀ pre e post T X B T' X' A us Gx m', all = pre ++ e :: post → J pre T X B → Stp X B A → (∀ b, T' b → (T b ∨ B.heap.size ≤ b) ∧ b < A.heap.size) → (∀ b, X' b → T' b ∧ (X b ∨ B.heap.size ≤ b)) →
   (∀ b, Gx b → (G b ∨ T' b) ∧ ¬ X' b) → VRs A (Gd.of Gx) aK (hX ks e) us →
   YieldAt Fence.wide m' P l us.toArray A fun en C =>
    ((∀ b, b < A.heap.size → G b ∨ T' b → C.heap[b]? = A.heap[b]?) ∧ (∀ b n, Room A b n → Room C b n) ∧ A.heap.size ≤ C.heap.size ∧ A.drawn ≤ C.drawn) ∧ ((en = .returned (.bool true) ∧ J (pre ++ [e]) T' X' C) ∨ (en = .returned (.bool false) ∧ Jx (pre ++ [e]) T' X' C))) →
  J [] (fun _ => False) (fun _ => False) W →
  CallsIn Fence.wide m P gf ((#[.func (.yield l) #[] #[]] : Array Value) ++ vs.toArray) W fun en C => (∃ v, en = .returned v) ∧ ∃ T X B, Stp X B C ∧ (J all T X B ∨ ∃ pre, Jx pre T X B)

def vX {σ τ ε : Type} (step : σ → ε → Option (σ ⊕ τ)) (fin : σ → Option τ) : List ε → σ → Option τ
 | [], y => fin y
 | e :: es, y => match step y e with
  | some (.inl y') => vX step fin es y'
  | some (.inr z) => some z
  | none => none
def aC2 : List Nat → List PV → Frm → Frm
 | t :: ts, p :: ps, F => aC2 ts ps ((t, p) :: F)
 | _, _, F => F
def aXQ (sh : List (Nat × Kd)) (exits : List (Ex × List (Nat × Kd))) (F0 : Frm) (ex : Ex) (_ : Frm) (H : Heap) : Option (Shape.den sh ⊕ aU exits) := VJ [] sh exits ex F0 H
def K0 (P : Program) (E : Env) (nt aT : Nat) (lt rt : Nat → Option aR) (ps : List Nat) (assign body : Code) (ks : List Kd) (sh : List (Nat × Kd)) (exits : List (Ex × List (Nat × Kd))) (y : Shape.den sh) (e : aH ks) : Option (Shape.den sh ⊕ aU exits) :=
 bif Nat.beq ps.length ks.length && ps.all (fun t => Nat.blt t nt) then
  rI P E nt aT lt rt true (rP sh 0) assign (aC2 ps (hX ks e) (oY sh y 0)) (vR sh y) fun ex F H => match ex with
   | .normal => rI P E nt aT lt rt true (rP sh 0) body F H (aXQ sh exits (oY sh y 0))
   | _ => none
 else none
def aM3 (sh : List (Nat × Kd)) (exits : List (Ex × List (Nat × Kd))) (y : Shape.den sh) : Option (aU exits) := D3 [] exits .normal (oY sh y 0) (vR sh y)
def ZF (sh : List (Nat × Kd)) (exits : List (Ex × List (Nat × Kd))) {ε : Type} (all : Shape.den sh → Option (List ε)) (step : Shape.den sh → ε → Option (Shape.den sh ⊕ aU exits)) (x : Shape.den sh) : Option (aU exits) :=
 match all x with
 | some l => vX step (aM3 sh exits) l x
 | none => none
def ZG (gf : FuncId) (ts : List Ty) (sh : List (Nat × Kd)) (g : Operand) (x : Shape.den sh) : Option (uC ts) := bif ts.all Ty.plain then aEA gf ts (ev (oY sh x 0) g) else none

section
variable {P : Program} {n0 : Nat → Prop} {w wi : World} {G Gi : Gd} {μ μi : Mp} {H : Heap} {F : Frm} {a : Act} {nt : Nat}
theorem tJ {l : Nat} {o o' : Obj} (hl : w.heap[l]? = some o) (ho : ∀ c t fr, o ≠ .cells c t fr) (hG : ¬ G l) : Mono w G μ (w.putObj l o') G μ :=
 ⟨fun b hb => ⟨hb, World.putObj_heap_other (by rintro rfl; exact hG hb)⟩, fun _ _ h => h, fun _ _ h => h, fun b n ⟨cs, t, fr, h1, h2⟩ => ⟨cs, t, fr, by
  rw [World.putObj_heap_other]
  ·exact h1
  ·rintro rfl
   rw [hl] at h1
   exact ho cs t fr (Option.some.inj h1), h2⟩, fun _ _ h => h⟩
theorem DC (hW : aV n0 G μ H w) {l : Nat} {o o' : Obj} (hl : w.heap[l]? = some o) (ho : ∀ c t fr, o ≠ .cells c t fr) (hG : ¬ G l) : aV n0 G μ H (w.putObj l o') := by
 have m := tJ (μ := μ) (o' := o') hl ho hG
 refine ⟨?_, hW.tags, hW.inj, hW.lt.step m.good fun b hb => by rw [World.putObj_size]; exact hW.lt b hb, hW.top, fun b hb => hW.base b (by rw [World.putObj_size] at hb; exact hb), hW.rows.step m.aK (by rw [World.putObj_size]; exact Nat.le_refl _) (fun _ => rfl) (fun j b hj => ⟨?_, id, fun r k h1 h2 h3 => ⟨r, k, h1, h2, h3⟩⟩) (fun r k _ _ h1 _ _ => ⟨k, h1, rfl, rfl, rfl, rfl⟩)⟩
 case refine_2 =>
  rw [World.putObj_heap_other]
  rintro rfl
  obtain ⟨c, t, fr, hc⟩ := hW.rows.cel j _ hj
  rw [hl] at hc
  exact ho c t fr (Option.some.inj hc)
 intro r k b hr hb
 obtain ⟨c, h1, h2, h3, h4⟩ := hW.blk r k b hr hb
 have e : (w.putObj l o').heap[b]? = w.heap[b]? := by
  rw [World.putObj_heap_other]
  rintro rfl
  rw [hl] at h1
  exact ho _ _ _ (Option.some.inj h1)
 exact ⟨c, e.trans h1, aP.mono m e 0 _ h2, h3, h4⟩
theorem GU {l : Nat} {o o' : Obj} (hl : w.heap[l]? = some o) (ho : ∀ c t fr, o ≠ .cells c t fr) (hG : ¬ G l) (hn : n0 l) : Ext n0 w G μ (w.putObj l o') G μ :=
 {toMono := tJ hl ho hG
  os := rfl
  tape := rfl
  output := rfl
  size := by simp
  drawn := Nat.le_refl _
  old := fun b hb hnb => World.putObj_heap_other (by rintro rfl; exact hnb hn)
  new := fun b hb => .inl hb }

theorem aL1 {T X T' Gx G1 : Nat → Prop} {A B : World} (hW : aV (fun b => n0 b ∧ ¬ T b) G μ H B) (hn : ∀ b, T b → n0 b) (hTX : ∀ b, X b → T b) (hGX : ∀ b, G b → ¬ X b) (hG1 : ∀ b, G1 b → G b) (st : Stp X B A) (hT : ∀ b, T' b → (T b ∨ B.heap.size ≤ b) ∧ b < A.heap.size) (hx : ∀ b, Gx b → G1 b ∨ T' b) :
  Ext n0 B G μ A (G.or Gx) μ := {
 good := fun b hb => ⟨.inl hb, st.aT b (hW.lt b hb) (hGX b hb)⟩
 map := fun _ _ h => h
 len := fun _ _ h => h
 room := st.room
 row := fun _ _ h => h
 os := st.os
 tape := st.tape
 output := st.output
 size := st.size
 drawn := st.drawn
 old := fun b hb hnb => st.aT b hb fun hs => hnb (hn b (hTX b hs))
 new := fun b hb => by
  rcases hb with hb | hb
  ·exact .inl hb
  ·rcases hx b hb with h | h
   ·exact .inl (hG1 b h)
   ·rcases (hT b h).1 with h | h
    ·exact .inr (hn b h)
    ·exact .inr (hW.base b h).1 }
theorem aGV {T X T' Gx G1 : Nat → Prop} {A B : World} (hW : aV (fun b => n0 b ∧ ¬ T b) G μ H B) (hTX : ∀ b, X b → T b) (hGX : ∀ b, G b → ¬ X b) (hG1 : ∀ b, G1 b → G b) (st : Stp X B A) (hT : ∀ b, T' b → (T b ∨ B.heap.size ≤ b) ∧ b < A.heap.size) (hx : ∀ b, Gx b → G1 b ∨ T' b) :
  aV (fun b => n0 b ∧ ¬ T' b) (G.or Gx) μ H A := by
 have m : Mono B G μ A (G.or Gx) μ := ⟨fun b hb => ⟨.inl hb, st.aT b (hW.lt b hb) (hGX b hb)⟩, fun _ _ h => h, fun _ _ h => h, st.room, fun _ _ h => h⟩
 refine ⟨?_, hW.tags, hW.inj, ?_, hW.top, fun b hb => ⟨(hW.base b (Nat.le_trans st.size hb)).1, fun hs => Nat.lt_irrefl _ (Nat.lt_of_lt_of_le (hT b hs).2 hb)⟩, ?_⟩
 case refine_3 =>
  have nT : ∀ j b, G.row j = some b → ¬ T' b := fun j b hj hs => by
   obtain ⟨a1, a2, _⟩ := hW.rows.sep j b hj
   rcases (hT b hs).1 with h | h
   ·exact a2.2 h
   ·omega
  refine (hW.rows.QV (n1 := fun b => n0 b ∧ ¬ T' b) fun j b hj hn => ⟨hn.1, nT j b hj⟩).step m.aK st.size (fun _ => rfl) (fun j b hj => ⟨?_, ?_, fun r k h1 h2 h3 => ⟨r, k, h1, h2, h3⟩⟩) (fun r k _ _ h1 _ _ => ⟨k, h1, rfl, rfl, rfl, rfl⟩)
  ·obtain ⟨a1, a2, _⟩ := hW.rows.sep j b hj
   exact st.aT b a1 fun hx => a2.2 (hTX b hx)
  ·rintro (h | h)
   ·exact h
   ·rcases hx b h with h' | h'
    ·exact hG1 b h'
    ·exact absurd h' (nT j b hj)
 ·intro r k b hr hb
  obtain ⟨c, h1, h2, h3, h4, h5⟩ := hW.blk r k b hr hb
  have hlt := hW.j3 hr hb
  have hns : ¬ X b := by
   cases hf : k.frozen with
   | true => exact hGX b (h4 hf)
   | false => exact fun hx => (h5 hf).1.2 (hTX b hx)
  have e := st.aT b hlt hns
  have nT : k.frozen = false → ¬ T' b := fun hf hs => by
   rcases (hT b hs).1 with h | h
   ·exact (h5 hf).1.2 h
   ·omega
  refine ⟨c, e.trans h1, aP.mono m e 0 _ h2, h3, fun hf => .inl (h4 hf), fun hf => ⟨⟨(h5 hf).1.1, nT hf⟩, ?_⟩⟩
  rintro (h | h)
  ·exact (h5 hf).2 h
  ·rcases hx b h with h' | h'
   ·exact (h5 hf).2 (hG1 b h')
   ·exact nT hf h'
 ·refine hW.lt.step m.good ?_
  rintro b (hb | hb)
  ·exact Nat.lt_of_lt_of_le (hW.lt b hb) st.size
  ·rcases hx b hb with h | h
   ·exact Nat.lt_of_lt_of_le (hW.lt b (hG1 b h)) st.size
   ·exact (hT b h).2

theorem aCU : ∀ {ps : List Nat} {qs : List PV} {us : List Value} {F : Frm} {tmps : Array Value}, ps.length = qs.length → (∀ t ∈ ps, t < nt) → VRs w G μ qs us → eF w G μ nt F { tmps := tmps, defers := [] } →
  eF w G μ nt (aC2 ps qs F) { tmps := (ps.zip us).foldl (fun t (p, v) => t.setIfInBounds p v) tmps, defers := [] }
 | [], [], us, F, tmps, _, _, hv, hF => by
  simp only [aC2, List.zip_nil_left, List.foldl_nil]; exact hF
 | t :: ts, q :: qs, us, F, tmps, hl, hb, hv, hF => by
  rw [VRs] at hv
  obtain ⟨v, vs, rfl, h1, h2⟩ := hv
  simp only [aC2, List.zip_cons_cons, List.foldl_cons]
  exact aCU (by simpa using hl) (fun s hs => hb s (List.mem_cons_of_mem _ hs)) h2 (hF.cons (hb t List.mem_cons_self) h1)
 | [], _ :: _, us, F, tmps, hl, _, _, _ => by simp at hl
 | _ :: _, [], us, F, tmps, hl, _, _, _ => by simp at hl
end
end Go.PM
set_option linter.unusedSimpArgs false
set_option linter.unusedVariables false
namespace Go.PM
open Go Go.RowKit
def tC (μ : Mp) (T : List Nat) : Mp := ⟨fun r => if r ∈ T then μ.loc r else none, fun r => if r ∈ T then μ.len r else none⟩

section
variable {P : Program} {n0 : Nat → Prop} {w w' wi : World} {G G' Gi : Gd} {μ μ' μi : Mp} {H : Heap} {F : Frm} {a : Act} {nt : Nat}
theorem vP {T : List Nat} {r : Nat} (h : r ∈ T) : (tC μ T).loc r = μ.loc r ∧ (tC μ T).len r = μ.len r := by simp [tC, h]
theorem GH {T : List Nat} : ∀ r, ¬ r ∈ T → (tC μ T).loc r = none ∧ (tC μ T).len r = none := fun r h => by simp [tC, h]
theorem O0 (T : List Nat) : Ext n0 w G (tC μ T) w G μ := {
 good := fun _ h => ⟨h, rfl⟩
 map := fun r b hr => by
  by_cases h : r ∈ T
  ·rw [(vP h).1] at hr; exact hr
  ·rw [(GH r h).1] at hr; cases hr
 len := fun r b hr => by
  by_cases h : r ∈ T
  ·rw [(vP h).2] at hr; exact hr
  ·rw [(GH r h).2] at hr; cases hr
 room := fun _ _ h => h
 row := fun _ _ h => h
 os := rfl
 tape := rfl
 output := rfl
 size := Nat.le_refl _
 drawn := Nat.le_refl _
 old := fun _ _ _ => rfl
 new := fun _ h => .inl h }
theorem QS : ∀ (ts : List Ty) (x : uC ts), cY.noRefs (G9 ts x) = true
 | [], _ => rfl
 | t :: r, (x, xs) => by simp only [G9, cY.noRefs, cY, QS r xs, Bool.and_self]
theorem aN8 {T : List Nat} : ∀ (k : Kd) (x : k.den) (n : Nat) {v : Value}, (∀ r, r ∈ OM k n → r ∈ T) → VR w G μ (o9 k x n) v → VR w G (tC μ T) (o9 k x n) v
 | .int _, x, n, v, _, h => by simp only [o9] at h ⊢; rw [VR] at h ⊢; exact h
 | .bool, x, n, v, _, h => by simp only [o9] at h ⊢; rw [VR] at h ⊢; exact h
 | .str, x, n, v, _, h => by simp only [o9] at h ⊢; rw [VR] at h ⊢; exact h
 | .list t, x, n, v, _, h => (qO (o9 (.list t) x n) v rfl h).bE
 | .agg t, x, n, v, _, h => (qO (o9 (.agg t) x n) v (by simp only [o9, cY]; exact AM t x) h).bE
 | .own e t, x, n, v, hT, h => by
  have := vP (μ := μ) (hT n (by simp [OM]))
  simp only [o9] at h ⊢
  rw [VR] at h ⊢; rw [this.1, this.2]; exact h
 | .box e t, x, n, v, hT, h => by
  have := vP (μ := μ) (hT n (by simp [OM]))
  simp only [o9] at h ⊢
  rw [VR] at h ⊢; rw [this.1]; exact h
 | .bown e et t, x, n, v, hT, h => by
  have := vP (μ := μ) (hT n (by simp [OM]))
  simp only [o9] at h ⊢
  rw [VR] at h ⊢; rw [this.1]; exact h
 | .bag e t1 et t t2, x, n, v, hT, h => by
  have := vP (μ := μ) (hT n (by simp [OM]))
  simp only [o9] at h ⊢
  rw [VR] at h ⊢; rw [this.1]; exact h
 | .ptr t, x, n, v, _, h => (qO (o9 (.ptr t) x n) v rfl h).bE
 | .fn g, x, n, v, _, h => by simp only [o9] at h ⊢; rw [VR] at h ⊢; exact h
 | .nil0, x, n, v, _, h => by simp only [o9] at h ⊢; rw [VR] at h ⊢; exact h
 | .val, x, n, v, _, h => by simp only [o9] at h ⊢; rw [VR] at h ⊢; exact h
 | .hnd sz, x, n, v, _, h => (qO (o9 (.hnd sz) x n) v rfl h).bE
 | .ar e t, x, n, v, _, h => by simp only [o9]; rw [VR]; trivial
 | .nilI, x, n, v, _, h => by simp only [o9] at h ⊢; rw [VR] at h ⊢; exact h
 | .clo g ts, x, n, v, _, h => (qO (o9 (.clo g ts) x n) v (by simp only [o9, cY, cY.noRefs, QS ts x, Bool.and_self]) h).bE
 | .win j sz, x, n, v, hT, h => by
  have := vP (μ := μ) (hT j (by simp [OM]))
  simp only [o9] at h ⊢
  rw [VR] at h ⊢; rw [this.1, this.2]; exact h
theorem aCE {T : List Nat} : ∀ (sh : List (Nat × Kd)) (x : Shape.den sh) (n : Nat) {t : Nat} {v : Value}, (∀ r, r ∈ rP sh n → r ∈ T) → VR w G μ (cM (oY sh x n) t) v → VR w G (tC μ T) (cM (oY sh x n) t) v
 | [], _, _, t, v, _, h => by simp only [oY, cM]; rw [VR]; trivial
 | (s, k) :: r, (x, xs), n, t, v, hT, h => by
  simp only [oY] at h ⊢
  rw [dS] at h ⊢
  by_cases hs : t = s
  ·rw [if_pos hs] at h ⊢
   exact aN8 k x n (fun r hr => hT r (by simp only [rP]; exact List.mem_append_left _ hr)) h
  ·rw [if_neg hs] at h ⊢
   exact aCE r xs (n + k.pos) (fun r hr => hT r (by simp only [rP]; exact List.mem_append_right _ hr)) h

theorem UM (hW : aV n0 G μ H w) (o : Obj) : Ext n0 w G μ (w.alloc o) G μ ∧ aV n0 G μ H (w.alloc o) := by
 have e : Ext n0 w G μ (w.alloc o) G μ := {
  good := fun b hb => ⟨hb, Below.heap_alloc _ _ _ (hW.lt b hb)⟩
  map := fun _ _ h => h
  len := fun _ _ h => h
  room := fun b n hc => by
   obtain ⟨cs, t, fr, h1, h2⟩ := hc
   exact ⟨cs, t, fr, by rw [Below.heap_alloc _ _ _ (eW h1)]; exact h1, h2⟩
  row := fun _ _ h => h
  os := rfl
  tape := rfl
  output := rfl
  size := by simp
  drawn := Nat.le_refl _
  old := fun b hb _ => Below.heap_alloc _ _ _ hb
  new := fun b hb => .inl hb }
 exact ⟨e, hW.aT e ⟨fun _ => rfl, fun j b hj => ⟨Below.heap_alloc _ _ _ (hW.rows.sep j b hj).1, id⟩⟩ (fun r k b hr hb => ⟨Below.heap_alloc _ _ _ (hW.j3 hr hb), id⟩) fun b hb => Nat.lt_of_lt_of_le (hW.lt b hb) e.size⟩
theorem Ext.plain (h : Ext n0 w G μ w' G' μ') : Ext n0 w G aK w' G' aK :=
 {good := h.good, map := fun _ _ h => (by cases h), len := fun _ _ h => (by cases h), room := h.room, row := h.row, os := h.os, tape := h.tape, output := h.output, size := h.size, drawn := h.drawn, old := h.old, new := h.new }
theorem Ext.back (hfl : ∀ r, μi.loc r = none ∧ μi.len r = none) (h : Ext n0 w G aK w' G' aK) : Ext n0 w G μi w' G' μ' :=
 {good := h.good, map := fun r b hr => (by rw [(hfl r).1] at hr; cases hr), len := fun r b hr => (by rw [(hfl r).2] at hr; cases hr), room := h.room, row := h.row, os := h.os, tape := h.tape, output := h.output, size := h.size, drawn := h.drawn, old := h.old, new := h.new }

def Ex.code : Ex → Code
 | .normal => .skip
 | .ret => .ret
 | .exit i => .exit i

structure Btw (n0 : Nat → Prop) (wi : World) (Gi : Gd) (μi : Mp) (nt : Nat) (a : Act) (G0 : Gd) (N L D : Nat) (F : Frm) (H : Heap) (T X : Nat → Prop) (B : World) (rec : Obj) (G : Gd) (μ : Mp) : Prop where
 ext : Ext n0 wi Gi μi B G μ
 winv : aV (fun b => n0 b ∧ ¬ T b) G μ H B
 finv : eF B G μ nt F { a with defers := [] }
 base : ∀ b, G0 b → G b
 good : ∀ b, G b → ¬ X b
 sub : ∀ b, X b → T b
 seq : ∀ b, T b → n0 b ∧ N ≤ b
 size : N ≤ B.heap.size
 notL : ¬ G L
 notD : ¬ G D
 atL : B.heap[L]? = some rec
 atD : B.heap[D]? = some (.deferred (some []))
 marks : Marks wi B G a.defers

theorem aPZ {gf : FuncId} {ts : List Ty} {c : uC ts} {v : Value} (h : VR w G aK (.clo (.func gf) [] (G9 ts c)) v) : ∃ cs : Array Value, v = .func (.func gf) #[] cs ∧ VRs w G aK (G9 ts c) cs.toList := by
 rw [VR] at h
 obtain ⟨fs, cs, h1, h2, h3⟩ := h
 rw [VRs] at h2
 have : fs = #[] := by
  apply Array.ext'
  simpa using h2
 subst this
 exact ⟨cs, h1, h3⟩
theorem KA : ∀ (l : List Kd) (x : aH l), (hX l x).length = l.length
 | [], _ => rfl
 | k :: r, (x, xs) => by simp only [hX, List.length_cons, KA r xs]

set_option maxHeartbeats 2000000 in
theorem aRE {E : Env} {aT : Nat} {lt rt : Nat → Option aR} (hcl : cN P (dF P E)) (hP : P.follows .mixedOrders = true) {g : Operand} {ps : Array Tmp} {as1 body : Code} {gf : FuncId} {ts : List Ty} {ks : List Kd} {f : uC ts → Option (List (aH ks))}
  (hit : OX P gf ts ks f) (hgf : ∀ args w, (callFunc gf args).run P w = .ok (.enter gf args) w)
  {sh : List (Nat × Kd)} {exits : List (Ex × List (Nat × Kd))} {step : Shape.den sh → aH ks → Option (Shape.den sh ⊕ aU exits)} {all : Shape.den sh → Option (List (aH ks))}
  (has : ∀ b ∈ cC as1, EW P nt lt rt true (rP sh 0) b) (hbd : ∀ b ∈ cC body, EW P nt lt rt true (rP sh 0) b)
  (hsq : ∀ x l, all x = some l → ∃ c, ZG gf ts sh g x = some c ∧ f c = some l)
  (hr : ∀ y e, K0 P E nt aT lt rt ps.toList as1 body ks sh exits y e = step y e) :
  uR P nt false [] (.rangeFunc g ps as1 body) ⟨sh, exits, ZF sh exits all step⟩ := by
 intro x z hz ro n n0 wi Gi μi a w hro hfl0 hI
 have hfl : ∀ r, μi.loc r = none ∧ μi.len r = none := fun r => hfl0 r (by simp)
 have hro := hro rfl
 subst hro
 show (Code.rangeFunc g ps as1 body).wpIn Fence.wide n P _ a w
 dsimp only at hz hI ⊢
 unfold ZF at hz
 obtain ⟨lst, hall⟩ : ∃ lst, all x = some lst := by
  cases h : all x with
  | none => rw [h] at hz; cases hz
  | some l => exact ⟨l, rfl⟩
 rw [hall] at hz
 dsimp only at hz
 obtain ⟨c, hc1, hc2⟩ := hsq x lst hall
 obtain ⟨G, μ, e, hW, hF, hm⟩ := hI
 have hgv : VR w G μ (ev (oY sh x 0) g) (a.eval g) := by
  have := cF hF g
  have e1 : ({ a with defers := [] } : Act).eval g = a.eval g := by cases g <;> rfl
  rwa [e1] at this
 obtain ⟨hpl0, hc1⟩ := aI hc1
 obtain ⟨lb, hg, hvs⟩ := aPZ (F7 hc1 hgv)
 refine wpIn_rangeFunc ?_
 intro fn _
 obtain ⟨rec, hrec⟩ : ∃ rec : LoopState → Option Code → Loop, rec = fun st pe => { state := st, pending := pe, fn, tmps := a.tmps, params := ps, assign := as1, body, defers := w.heap.size } := ⟨_, rfl⟩
 obtain ⟨W1, hW1⟩ : ∃ W1, (w.alloc (.deferred (some []))).alloc (.loop (rec .ready none)) = W1 := ⟨_, rfl⟩
 obtain ⟨L, hLe⟩ : ∃ L, w.heap.size + 1 = L := ⟨_, rfl⟩
 obtain ⟨D, hDe⟩ : ∃ D, w.heap.size = D := ⟨_, rfl⟩
 have hs1 : W1.heap.size = w.heap.size + 2 := by rw [← hW1]; simp
 have hL1 : W1.heap[L]? = some (.loop (rec .ready none)) := by
  rw [← hW1, ← hLe]; have := World.alloc_heap_new (w.alloc (.deferred (some []))) (.loop (rec .ready none)); rwa [World.size_alloc] at this
 have hD1 : W1.heap[D]? = some (.deferred (some [])) := by
  rw [← hW1, ← hDe]; exact (Below.heap_alloc _ _ _ (by simp)).trans (World.alloc_heap_new w _)
 obtain ⟨a1, a2⟩ := UM (n0 := n0) hW (.deferred (some []))
 obtain ⟨b1, b2⟩ := UM (n0 := n0) a2 (.loop (rec .ready none))
 rw [hW1] at b1 b2
 have eW1 : Ext n0 wi Gi μi W1 G μ := (e.trans a1).trans b1
 have hvs1 : VRs W1 G aK (G9 ts c) lb.toList := VRs.mono (a1.toMono.trans b1.toMono).aK _ _ hvs
 have hGL : ¬ G L := fun h => by have := hW.lt L h; omega
 have hGD : ¬ G D := fun h => by have := hW.lt D h; omega
 have hn0L : n0 L := hW.base L (by omega)
 have hn0D : n0 D := hW.base D (by omega)
 have marks1 : Marks wi W1 G a.defers := hm.to fun b hb h1 h2 => ⟨by rw [← hW1, Below.heap_alloc _ _ _ (by have := eW h1; simp; omega), Below.heap_alloc _ _ _ (eW h1)]; exact h1, h2⟩
 have markN : ∀ b, ({ target := .collected b, args := #[] } : Deferred) ∈ a.defers → b < w.heap.size := by
  intro b hb
  obtain ⟨b', e1, e2, _⟩ := hm.mem _ hb
  have : b = b' := by injection e1 with e1 _; injection e1
  subst this
  exact eW e2
 -- the states between the rounds
 let J : List (aH ks) → (Nat → Prop) → (Nat → Prop) → World → Prop := fun pre T X B => ∃ y, vX step (aM3 sh exits) (lst.drop pre.length) y = some z ∧ ∃ G' μ', Btw n0 wi Gi μi nt a G W1.heap.size L D (oY sh y 0) (vR sh y) T X B (.loop (rec .ready none)) G' μ'
 let Jx : List (aH ks) → (Nat → Prop) → (Nat → Prop) → World → Prop := fun pre T X B => (qY exits z).1 ≠ .normal ∧ ∃ G' μ', Btw n0 wi Gi μi nt a G W1.heap.size L D (qY exits z).2.1 (qY exits z).2.2 T X B (.loop (rec .done (some (qY exits z).1.code))) G' μ'
 refine ⟨L, [{ target := .collected D, args := #[] }], W1, { target := .fn (.func gf) lb, args := #[.func (.yield L) #[] #[]] }, W1, gf, #[.func (.yield L) #[] #[]] ++ lb, W1, ?_, ?_, fun _ _ => trivial, ?_, fun h => (by cases h), ?_⟩
 ·rw [← hW1, hrec, ← hLe, ← hDe]; exact run_enterLoop_outer _ _ _ _ _
 ·simp only [resolve, hg]
  simp [go_sem]
 ·simp [invoke, go_sem, hgf]
 ·have hcall := hit c lst hc2 (n - 1) L W1 G.ok lb.toList b2.lt (mA (G := G) (G' := Gd.of G.ok) (fun b h => h) _ _ _ (NQ ts c hpl0) hvs1) J Jx ?round ?start
  ·rw [Array.toArray_toList] at hcall
   refine hcall.mono ?_
   rintro en C ⟨⟨v, rfl⟩, T, X, B, st, hJ⟩
   have hstep : ∀ {F' : Frm} {H' : Heap} {st' : LoopState} {pe : Option Code} {G' : Gd} {μ' : Mp}, Btw n0 wi Gi μi nt a G W1.heap.size L D F' H' T X B (.loop (rec st' pe)) G' μ' →
     C.heap[L]? = some (.loop (rec st' pe)) ∧ ∀ o, IM n0 wi Gi μi nt F' H' { a with defers := { target := .collected D, args := #[] } :: a.defers } (C.putObj L o) := by
    intro F' H' st' pe G' μ' bt
    have nS : ∀ b, b < W1.heap.size → ¬ X b := fun b hb hs => Nat.lt_irrefl _ (Nat.lt_of_lt_of_le hb (bt.seq b (bt.sub b hs)).2)
    have hLC : C.heap[L]? = some (.loop (rec st' pe)) := (st.aT L (eW bt.atL) (nS L (by omega))).trans bt.atL
    have hDC : C.heap[D]? = some (.deferred (some [])) := (st.aT D (eW bt.atD) (nS D (by omega))).trans bt.atD
    refine ⟨hLC, fun o => ?_⟩
    have x1 := aL1 (T' := fun _ => False) (Gx := fun _ => False) bt.winv (fun b hb => (bt.seq b hb).1) bt.sub bt.good bt.base st (fun b hb => hb.elim) (fun b hb => hb.elim)
    have x2 := (aGV (T' := fun _ => False) (Gx := fun _ => False) bt.winv bt.sub bt.good bt.base st (fun b hb => hb.elim) (fun b hb => hb.elim)).wider (n0 := n0) fun b hb => hb.1
    have nL : ¬ (G' L ∨ False) := fun h => h.elim bt.notL id
    have nD : ¬ (G' D ∨ False) := fun h => h.elim bt.notD id
    have x3 := DC (o' := o) x2 hLC (fun _ _ _ h => by cases h) nL
    have x4 := GU (G := G'.or fun _ => False) (n0 := n0) (μ := μ') (o' := o) hLC (fun _ _ _ h => by cases h) nL hn0L
    refine ⟨G'.or fun _ => False, μ', (bt.ext.trans x1).trans x4, x3, bt.finv.mono (x1.toMono.trans x4.toMono), ⟨D, rfl, ?_, ?_, nD, ?_⟩, ?_⟩
    ·rw [World.putObj_heap_other (by omega)]; exact hDC
    ·have := e.size; omega
    ·intro d' hd' he
     subst he
     have := markN _ hd'
     omega
    ·refine bt.marks.to fun b hb h1 h2 => ⟨?_, fun h => h.elim h2 id⟩
     have hbw := markN b hb
     rw [World.putObj_heap_other (by omega), st.aT b (eW h1) (nS b (by omega))]
     exact h1
   rcases hJ with ⟨y, hy, G', μ', bt⟩ | ⟨pre, hne, G', μ', bt⟩
   ·obtain ⟨h1, h2⟩ := hstep bt
    rw [List.drop_length] at hy
    simp only [vX] at hy
    have hel := run_endLoop (P := P) h1 (by rw [hrec]; simp)
    have k := fun o => (h2 o).MK hfl0 hy
    have hpn : (rec .ready none).pending = none := by rw [hrec]
    rw [hpn] at hel
    exact ⟨none, _, hel, by rw [(k (.deferred none)).1]; rfl, (k _).2, fun h => by cases h⟩
   ·obtain ⟨h1, h2⟩ := hstep bt
    have hel := run_endLoop (P := P) h1 (by rw [hrec]; simp)
    have hpn : (rec .done (some (qY exits z).1.code)).pending = some (qY exits z).1.code := by rw [hrec]
    rw [hpn] at hel
    refine ⟨some (qY exits z).1.code, _, hel, ?_⟩
    dsimp only
    clear hel hpn h1 bt
    generalize qY exits z = zz at hne h2 ⊢
    obtain ⟨ex, F', H'⟩ := zz
    cases ex with
    | normal => exact absurd rfl hne
    | ret => exact wpIn_ret ⟨rfl, h2 _, fun h => by cases h⟩
    | exit i => exact wpIn_exit ⟨rfl, h2 _, fun h => by cases h⟩
  case start =>
   refine ⟨x, by simpa using hz, G, μ, eW1, b2.wider fun b hb => ⟨hb, id⟩, hF.mono (a1.toMono.trans b1.toMono), fun b h => h, fun b _ h => h, fun b h => h.elim, fun b h => h.elim, Nat.le_refl _, hGL, hGD, hL1, hD1, marks1⟩
  case round =>
   rintro pre el post T X B T' X' A us Gx m' hlst ⟨y, hy, G', μ', bt⟩ st hT' hX' hGx hus
   have hdrop : lst.drop pre.length = el :: post := by rw [hlst]; simp
   have hdrop2 : lst.drop (pre ++ [el]).length = post := by rw [hlst]; simp
   rw [hdrop] at hy
   simp only [vX] at hy
   obtain ⟨v, hv⟩ : ∃ v, step y el = some v := by
    cases h : step y el with
    | none => rw [h] at hy; cases hy
    | some v => exact ⟨v, rfl⟩
   have hrg := hr y el
   rw [hv] at hrg
   unfold K0 at hrg
   obtain ⟨hck, hrg⟩ := aI hrg
   simp only [Bool.and_eq_true, List.all_eq_true] at hck
   have hpl := Nat.eq_of_beq_eq_true hck.1
   have hpt : ∀ t ∈ ps.toList, t < nt := fun t ht => fC (hck.2 t ht)
   -- the world in which the element comes
   have nT : ∀ b, b < W1.heap.size → ¬ T b := fun b hb hs => Nat.lt_irrefl _ (Nat.lt_of_lt_of_le hb (bt.seq b hs).2)
   have nS : ∀ b, b < W1.heap.size → ¬ X b := fun b hb hs => nT b hb (bt.sub b hs)
   have hLB := eW bt.atL
   have hDB := eW bt.atD
   have hLA : A.heap[L]? = some (.loop (rec .ready none)) := (st.aT L hLB (nS L (by omega))).trans bt.atL
   have hDA : A.heap[D]? = some (.deferred (some [])) := (st.aT D hDB (nS D (by omega))).trans bt.atD
   have x1 := aL1 bt.winv (fun b hb => (bt.seq b hb).1) bt.sub bt.good bt.base st hT' (fun b hb => (hGx b hb).1)
   have x2 := aGV bt.winv bt.sub bt.good bt.base st hT' (fun b hb => (hGx b hb).1)
   have nS' : ∀ b, b < B.heap.size → ¬ T b → ¬ T' b := by
    intro b hb hs h
    rcases (hT' b h).1 with h' | h'
    ·exact hs h'
    ·omega
   have nG2 : ∀ b, b < B.heap.size → ¬ T b → ¬ G' b → ¬ (G' b ∨ Gx b) := by
    rintro b hb ht hg (h | h)
    ·exact hg h
    ·rcases (hGx b h).1 with h' | h'
     ·exact hg (bt.base b h')
     ·exact nS' b hb ht h'
   have nL2 := nG2 L hLB (nT L (by omega)) bt.notL
   have nD2 := nG2 D hDB (nT D (by omega)) bt.notD
   have marksA : Marks wi A (G'.or Gx) a.defers := bt.marks.to fun b hb h1 h2 => ⟨by rw [st.aT b (eW h1) (nS b (by have := markN b hb; omega))]; exact h1, nG2 b (eW h1) (nT b (by have := markN b hb; omega)) h2⟩
   obtain ⟨G2, hG2⟩ : ∃ G2, G2 = G'.or Gx := ⟨_, rfl⟩
   rw [← hG2] at x1 x2 marksA
   have nL2 : ¬ G2 L := by rw [hG2]; exact nL2
   have nD2 : ¬ G2 D := by rw [hG2]; exact nD2
   have hxS : ∀ b, (b = L ∨ b = D ∨ ({ target := .collected b, args := #[] } : Deferred) ∈ a.defers) → b < A.heap.size ∧ ∀ c t fr, A.heap[b]? ≠ some (.cells c t fr) := by
    rintro b (rfl | rfl | hb)
    ·exact ⟨eW hLA, fun c t fr h => by rw [hLA] at h; cases h⟩
    ·exact ⟨eW hDA, fun c t fr h => by rw [hDA] at h; cases h⟩
    ·obtain ⟨b', e1, e2, _⟩ := marksA.mem _ hb
     have : b = b' := by injection e1 with e1 _; injection e1
     subst this
     exact ⟨eW e2, fun c t fr h => by rw [e2] at h; cases h⟩
   have x3 := x2.less hxS
   obtain ⟨n1, hn1⟩ : ∃ n1 : Nat → Prop, n1 = fun b => (n0 b ∧ ¬ T' b) ∧ ¬ (b = L ∨ b = D ∨ ({ target := .collected b, args := #[] } : Deferred) ∈ a.defers) := ⟨_, rfl⟩
   rw [← hn1] at x3
   have n1n0 : ∀ b, n1 b → n0 b := fun b h => by rw [hn1] at h; exact h.1.1
   have n1S : ∀ b, n1 b → ¬ T' b := fun b h => by rw [hn1] at h; exact h.1.2
   have n1L : ¬ n1 L := fun h => by rw [hn1] at h; exact h.2 (.inl rfl)
   have n1D : ¬ n1 D := fun h => by rw [hn1] at h; exact h.2 (.inr (.inl rfl))
   have n1M : ∀ b, ({ target := .collected b, args := #[] } : Deferred) ∈ a.defers → ¬ n1 b := fun b hb h => by rw [hn1] at h; exact h.2 (.inr (.inr hb))
   have hFA : eF A G2 μ' nt (oY sh y 0) { a with defers := [] } := bt.finv.mono x1.toMono
   have husA : VRs A G2 μ' (hX ks el) us := VRs.mono (⟨fun b hb => ⟨by rw [hG2]; exact .inr hb, rfl⟩, fun _ _ h => (by cases h), fun _ _ h => (by cases h), fun _ _ h => h, fun _ _ h => (by cases h)⟩ : Mono A (Gd.of Gx) aK A G2 μ') _ _ hus
   have hlen : us.length = ps.size := by
    rw [← husA.length, KA, ← hpl, Array.length_toList]
   have hyield := run_yield (P := P) (args := us.toArray) hLA (by rw [hrec]; simpa using hlen)
   have hfold : (ps.zip us.toArray).foldl (fun tmps (t, a) => tmps.setIfInBounds t a) a.tmps = (ps.toList.zip us).foldl (fun t (p, v) => t.setIfInBounds p v) a.tmps := by
    rw [← Array.foldl_toList, Array.toList_zip]
   rw [hrec] at hyield
   dsimp only at hyield
   rw [hfold] at hyield
   refine ⟨fn, _, as1, body, hyield, roundIn_of_wpIn trivial ?_⟩
   -- the assignment
   have hI0 : IM n1 A G2 (tC μ' (rP sh 0)) nt (aC2 ps.toList (hX ks el) (oY sh y 0)) (vR sh y) { tmps := (ps.toList.zip us).foldl (fun t (p, v) => t.setIfInBounds p v) a.tmps, defers := [] } A :=
    ⟨G2, μ', O0 _, x3, aCU (by rw [KA]; exact hpl) hpt husA hFA, trivial⟩
   obtain ⟨⟨ex1, F1, H1⟩, hk1, hrun1⟩ := jE hcl hP as1 _ _ _ _ has hrg
   dsimp only at hk1
   cases ex1 with
   | ret => cases hk1
   | exit i => cases hk1
   | normal =>
   dsimp only at hk1
   obtain ⟨⟨ex2, F2, H2⟩, hk2, hrun2⟩ := jE hcl hP body _ _ _ _ hbd hk1
   show as1.wpIn (Fr (some L)) m' P _ _ A
   refine wpIn_mono (hrun1 (some L) m' n1 A G2 _ _ A (fun h => by cases h) (fun r h => GH r h) hI0) ?_
   rintro e1 act1 A1 ⟨rfl, ⟨G3, μ3, y1, y2, y3, y4⟩, hd1⟩
   have hd1 : act1.defers = [] := hd1 rfl
   have nL3 : ¬ G3 L := fun h => (y1.new L h).elim nL2 n1L
   have hL1' : A1.heap[L]? = some (.loop (rec .ready none)) := (y1.old L (eW hLA) n1L).trans hLA
   refine ⟨_, run_beginRound hL1' (by rw [hrec]), ?_⟩
   obtain ⟨A2, hA2⟩ : ∃ A2, A1.putObj L (.loop { rec .ready none with state := .busy }) = A2 := ⟨_, rfl⟩
   rw [hA2]
   have p1 : Mono A1 G3 μ3 A2 G3 μ3 := by rw [← hA2]; exact tJ hL1' (fun _ _ _ h => by cases h) nL3
   have p2 : aV n1 G3 μ3 H1 A2 := by rw [← hA2]; exact DC y2 hL1' (fun _ _ _ h => by cases h) nL3
   have hL2' : A2.heap[L]? = some (.loop { rec .ready none with state := .busy }) := by rw [← hA2]; exact World.putObj_heap_same (eW hL1')
   have e12 : Ext n0 A1 G3 μ3 A2 G3 μ3 := by rw [← hA2]; exact GU hL1' (fun _ _ _ h => by cases h) nL3 hn0L
   have hI2 : IM n1 A2 G3 (tC μ' (rP sh 0)) nt F1 H1 act1 A2 :=
    ⟨G3, μ3, { O0 (n0 := n1) (w := A2) (G := G3) (μ := μ') [] with
     map := y1.map
     len := y1.len
     good := fun b hb => ⟨hb, rfl⟩
     room := fun _ _ h => h
     new := fun b hb => .inl hb }, p2, y3.mono p1, by rw [hd1]; trivial⟩
   show body.wpIn (Fr (some L)) m' P _ act1 A2
   refine wpIn_mono (hrun2 (some L) m' n1 A2 G3 _ act1 A2 (fun h => by cases h) (fun r h => GH r h) hI2) ?_
   rintro e2 act2 A3 ⟨rfl, ⟨G4, μ4, z1, z2, z3, z4⟩, hd2⟩
   have nL4 : ¬ G4 L := fun h => (z1.new L h).elim nL3 n1L
   have hL3' : A3.heap[L]? = some (.loop { rec .ready none with state := .busy }) := (z1.old L (eW hL2') n1L).trans hL2'
   have hdn : act2.defers = [] := (hd2 rfl).trans hd1
   -- back with the caller
   have hFend : eF A3 G4 μ4 nt (oY sh y 0) { a with defers := [] } := by
    refine ⟨hFA.size, fun t => ?_, rfl⟩
    have v0 := aCE (T := rP sh 0) sh y 0 (fun r h => h) (hFA.slot t)
    have v1 := VR.mono (⟨y1.good, fun _ _ h => h, fun _ _ h => h, y1.room, y1.row⟩ : Mono A G2 (tC μ' (rP sh 0)) A1 G3 (tC μ' (rP sh 0))) _ _ v0
    have v2 := VR.mono (⟨p1.good, fun _ _ h => h, fun _ _ h => h, p1.room, p1.row⟩ : Mono A1 G3 (tC μ' (rP sh 0)) A2 G3 (tC μ' (rP sh 0))) _ _ v1
    exact VR.mono z1.toMono _ _ v2
   have back : ∀ (o : Obj) (F5 : Frm) (H5 : Heap), (∀ {n0 : Nat → Prop} {wi : World} {Gi : Gd} {μi : Mp} {a : Act} {w : World}, (∀ r, ¬ r ∈ ([] : List Nat) → μi.loc r = none ∧ μi.len r = none) → IM n0 wi Gi μi nt (oY sh y 0) H2 a w → IM n0 wi Gi μi nt F5 H5 a w) →
     ∃ G5 μ5, Btw n0 wi Gi μi nt a G W1.heap.size L D F5 H5 T' X' (A3.putObj L o) o G5 μ5 := by
    intro o F5 H5 hdec
    have q1 := DC (o' := o) z2 hL3' (fun _ _ _ h => by cases h) nL4
    have q2 := tJ (μ := μ4) (o' := o) hL3' (fun _ _ _ h => by cases h) nL4
    have q3 := GU (n0 := n0) (μ := μ4) (o' := o) hL3' (fun _ _ _ h => by cases h) nL4 hn0L
    have hIe : IM n1 (A3.putObj L o) G4 aK nt (oY sh y 0) H2 { a with defers := [] } (A3.putObj L o) :=
     ⟨G4, μ4, { O0 (n0 := n1) (w := A3.putObj L o) (G := G4) (μ := μ4) [] with
      map := fun _ _ h => by cases h
      len := fun _ _ h => by cases h
      good := fun b hb => ⟨hb, rfl⟩
      room := fun _ _ h => h
      new := fun b hb => .inl hb }, q1, hFend.mono q2, trivial⟩
    obtain ⟨G5, μ5, r1, r2, r3, _⟩ := hdec (fun _ _ => ⟨rfl, rfl⟩) hIe
    have g45 : ∀ b, G5 b → G2 b ∨ n1 b := fun b h => by
     rcases r1.new b h with h | h
     ·rcases z1.new b h with h | h
      ·exact y1.new b h
      ·exact .inr h
     ·exact .inr h
    have mk : ∀ b, ({ target := .collected b, args := #[] } : Deferred) ∈ a.defers → A.heap[b]? = some (.deferred (some [])) → (A3.putObj L o).heap[b]? = some (.deferred (some [])) := by
     intro b hb h1
     have hbw := markN b hb
     have k1 := (y1.old b (eW h1) (n1M b hb)).trans h1
     have k2 : A2.heap[b]? = some (.deferred (some [])) := by rw [← hA2, World.putObj_heap_other (by omega)]; exact k1
     have k3 := (z1.old b (eW k2) (n1M b hb)).trans k2
     rw [World.putObj_heap_other (by omega)]; exact k3
    refine ⟨G5, μ5, ?_, r2.wider fun b hb => ⟨n1n0 b hb, n1S b hb⟩, r3, ?_, ?_, ?_, ?_, ?_, ?_, ?_, ?_, ?_, ?_⟩
    ·have t1 := ((bt.ext.plain.trans x1.plain).trans (y1.wider n1n0).plain).trans e12.plain
     exact Ext.back hfl (((t1.trans (z1.wider n1n0).plain).trans q3.plain).trans (r1.wider n1n0).plain)
    ·intro b hb
     have h2 : G2 b := by rw [hG2]; exact .inl (bt.base b hb)
     exact (r1.good b (z1.good b (y1.good b h2).1).1).1
    ·intro b hb hs
     rcases g45 b hb with h | h
     ·rw [hG2] at h
      rcases h with h | h
      ·rcases (hX' b hs).2 with h' | h'
       ·exact bt.good b h h'
       ·exact Nat.lt_irrefl _ (Nat.lt_of_lt_of_le (bt.winv.lt b h) h')
      ·exact (hGx b h).2 hs
     ·exact n1S b h (hX' b hs).1
    ·exact fun b hs => (hX' b hs).1
    ·intro b hs
     rcases (hT' b hs).1 with h | h
     ·exact bt.seq b h
     ·exact ⟨(bt.winv.base b h).1, Nat.le_trans bt.size h⟩
    ·have s1 := bt.size
     have s2 := st.size
     have s3 := y1.size
     have s4 := e12.size
     have s5 := z1.size
     rw [World.putObj_size]
     omega
    ·exact fun h => (g45 L h).elim nL2 n1L
    ·exact fun h => (g45 D h).elim nD2 n1D
    ·exact World.putObj_heap_same (eW hL3')
    ·have k1 := (y1.old D (eW hDA) n1D).trans hDA
     have k2 : A2.heap[D]? = some (.deferred (some [])) := by rw [← hA2, World.putObj_heap_other (by omega)]; exact k1
     have k3 := (z1.old D (eW k2) n1D).trans k2
     rw [World.putObj_heap_other (by omega)]; exact k3
    ·refine marksA.to fun b hb h1 h2 => ⟨mk b hb h1, fun hg => ?_⟩
     exact (g45 b hg).elim h2 (n1M b hb)
   have frame : ∀ (o : Obj) (b : Nat), b < A.heap.size → G b ∨ T' b → (A3.putObj L o).heap[b]? = A.heap[b]? := by
    intro o b hb h
    have hbL : b ≠ L := by
     rintro rfl
     rcases h with h | h
     ·exact hGL h
     ·exact nS' b hLB (nT b (by omega)) h
    have k1 : A1.heap[b]? = A.heap[b]? ∧ (G3 b ∨ T' b) := by
     rcases h with h | h
     ·have := y1.good b (by rw [hG2]; exact .inl (bt.base b h))
      exact ⟨this.2, .inl this.1⟩
     ·exact ⟨y1.old b hb fun hn => n1S b hn h, .inr h⟩
    have k2 : A2.heap[b]? = A.heap[b]? := by rw [← hA2, World.putObj_heap_other hbL]; exact k1.1
    have k3 : A3.heap[b]? = A2.heap[b]? := by
     rcases k1.2 with h | h
     ·exact (z1.good b h).2
     ·refine z1.old b ?_ fun hn => n1S b hn h
      have s3 := y1.size
      have s4 := e12.size
      omega
    rw [World.putObj_heap_other hbL, k3, k2]
   have hroom : ∀ (o : Obj) (b n : Nat), Room A b n → Room (A3.putObj L o) b n := fun o b n h =>
    (tJ (μ := μ4) (o' := o) hL3' (fun _ _ _ h => by cases h) nL4).room b n (z1.room b n (p1.room b n (y1.room b n h)))
   have hsz : ∀ o, A.heap.size ≤ (A3.putObj L o).heap.size ∧ A.drawn ≤ (A3.putObj L o).drawn := by
    intro o
    have s3 := y1.size
    have s4 := e12.size
    have s5 := z1.size
    have d3 := y1.drawn
    have d4 := e12.drawn
    have d5 := z1.drawn
    refine ⟨by rw [World.putObj_size]; omega, ?_⟩
    show A.drawn ≤ A3.drawn
    omega
   rw [hv] at hy
   unfold aXQ at hk2
   dsimp only at hk2
   rcases EM hk2 with ⟨x', rfl, e2, e3⟩ | ⟨z', rfl, e2, e3⟩
   ·subst e2
    dsimp only at hy
    refine ⟨_, _, run_endRound none hL3', ⟨frame _, hroom _, (hsz _).1, (hsz _).2⟩, .inl ⟨rfl, ⟨x', by rw [hdrop2]; exact hy, ?_⟩⟩⟩
    have := back (.loop (rec .ready none)) (oY sh x' 0) (vR sh x') (fun h hI => hI.dec h e3)
    rw [hrec] at this ⊢
    exact this
   ·dsimp only at hy
    have hzz : z' = z := Option.some.inj hy
    subst hzz
    obtain ⟨o1, _⟩ := zD e3
    have hb := back (.loop (rec .done (some ex2.code))) (qY exits z').2.1 (qY exits z').2.2 (fun h hI => (hI.MK h e3).2)
    rw [hrec] at hb
    cases ex2 with
    | normal => exact absurd rfl e2
    | ret =>
     refine ⟨_, _, run_endRound (some .ret) hL3', ⟨frame _, hroom _, (hsz _).1, (hsz _).2⟩, .inr ⟨rfl, by rw [o1]; exact e2, ?_⟩⟩
     rw [o1, hrec]
     exact hb
    | exit i =>
     refine ⟨_, _, run_endRound (some (.exit i)) hL3', ⟨frame _, hroom _, (hsz _).1, (hsz _).2⟩, .inr ⟨rfl, by rw [o1]; exact e2, ?_⟩⟩
     rw [o1, hrec]
     exact hb
end
end Go.PM
set_option linter.unusedSimpArgs false
set_option linter.unusedVariables false
namespace Go.PM
open Go Go.RowKit
section
variable {P : Program} {n0 : Nat → Prop} {w w' wi : World} {G G' Gi : Gd} {μ μ' μi : Mp} {H : Heap} {F : Frm} {nt n : Nat}
theorem uY {fn : Func} {tmps : Array Value} {R : Ending → World → Prop} (hb : ∀ b, wi.heap.size ≤ b → n0 b) (hend : ∀ w', IM n0 wi Gi μi nt F H { tmps := tmps, defers := [] } w' → LeavesIn Fence.wide n P fn tmps R [] .returning w') :
  ∀ (ds : List Deferred) (w : World), IM n0 wi Gi μi nt F H { tmps := tmps, defers := ds } w → LeavesInM Fence.wide n P fn tmps R ds .returning w
 | [], w, h => hend w h
 | d :: ds, w, h => by
  obtain ⟨G, μ, e, hW, hF, ⟨b, rfl, h1, h2, h3, h4⟩, hm⟩ := h
  refine ⟨by simp, .inl ⟨b, _, rfl, run_takeDeferred h1, uY hb hend ds _ ⟨G, μ, e.trans (GU h1 (fun _ _ _ h => by cases h) h3 (hb b h2)), DC hW h1 (fun _ _ _ h => by cases h) h3, hF.mono (tJ h1 (fun _ _ _ h => by cases h) h3), ?_⟩⟩⟩
  refine hm.to fun b' hb' k1 k2 => ⟨?_, k2⟩
  rw [World.putObj_heap_other]
  ·exact k1
  ·rintro rfl
   exact h4 _ hb' rfl

def UJ (P : Program) (E : Env) (fn : Func) (aT : Nat) (lt rt : Nat → Option aR) (c : Code) (args rets : List Kd) (x : aH args) : Option (aH rets) :=
 bif Nat.ble (hX args x).length fn.ntmps then rI P E fn.ntmps aT lt rt false [] c (start aT 0 (hX args x)) [] (aHE P fn.results.toList rets) else none

theorem LR {E : Env} (hP : CC P) (hE : aY P E) {g : Nat} {fn : Func} (hg : P.funcs[g]? = some fn) {c : Code} (hc : fn.body = some c) {aT : Nat} {lt rt : Nat → Option aR} {args rets : List Kd} {f : aH args → Option (aH rets)}
  (hl : ∀ a ∈ cC c, EW P fn.ntmps lt rt false [] a) (hb : ∀ x, UJ P E fn aT lt rt c args rets x = f x) : cL P g args rets f := by
 intro x y hy
 rw [← hb] at hy
 unfold UJ at hy
 obtain ⟨hlen, hy⟩ := aI hy
 obtain ⟨⟨ex, F', H'⟩, h1, h2⟩ := jE hE.callee hP.mixed c _ _ _ _ hl hy
 obtain ⟨vs, q, hex, hvs, hq, hd⟩ : ∃ vs q, (ex = .normal ∨ ex = .ret) ∧ mM P F' H' fn.results.toList = some vs ∧ aKO H' (dR vs) = some q ∧ aIF rets q = some y := by
  unfold aHE at h1
  split at h1
  ·cases h1
  ·rename_i hne
   split at h1
   ·rename_i vs hvs
    split at h1
    ·rename_i q hq
     refine ⟨vs, q, ?_, hvs, hq, h1⟩
     cases ex with
     | normal => exact .inl rfl
     | ret => exact .inr rfl
     | exit i => exact absurd rfl (hne i)
    ·cases h1
   ·cases h1
 have hcall : ∀ {n0 G μ w us}, aV n0 G μ [] w → VRs w G μ (hX args x) us → oN P n0 w G μ g us.toArray (dR vs) H' := by
  intro n0 G μ w us hW hv
  refine ⟨enters hg (hP.names g fn hg) (by rw [hc]; rfl) _ _, (callsIn_wide (n := 0)).1 (callsIn_of_wp_marks hg hc trivial ?_)⟩
  have hI : I n0 w G μ fn.ntmps (start aT 0 (hX args x)) [] ⟨us.toArray ++ Array.replicate (fn.ntmps - us.toArray.size) undef, []⟩ w := ⟨G, μ, Ext.refl _ _ _ _, hW, qL (by simpa using hv) (Nat.le_of_ble_eq_true hlen)⟩
  refine wpIn_mono (h2 none 0 n0 w G μ _ w (fun _ => rfl) (fun r _ => hW.top r (Nat.zero_le _)) hI.a3U) ?_
  rintro e ⟨tm, ds⟩ w' ⟨rfl, hI', _⟩
  have hend : ∀ w', IM n0 w G μ fn.ntmps F' H' { tmps := tm, defers := [] } w' → LeavesIn Fence.wide 0 P fn tm (fun e w' => ∃ v' G'' μ'', e = .returned v' ∧ Ext n0 w G μ w' G'' μ'' ∧ aV n0 G'' μ'' H' w' ∧ VR w' G'' μ'' (dR vs) v') [] .returning w' := by
   rintro w' ⟨G', μ', e', hW', hF', _⟩
   obtain ⟨ws, h3, h4⟩ := kY (P := P) hW' hF' hvs
   have hres : (results fn tm).run P w' = .ok (if hh : ws.toArray.size = 1 then ws.toArray[0] else .tuple ws.toArray) w' := by
    rw [sS, Array.mapM_eq_mapM_toList]
    simp only [Sem.run_bind, Sem.run_map, h3, Result.andThen_ok, Sem.run_pure]
   exact ⟨_, hres, _, G', μ', rfl, e', hW', mS h4⟩
  rcases hex with rfl | rfl
  ·exact uY (fun b hb => hW.base b hb) hend ds w' hI'
  ·exact uY (fun b hb => hW.base b hb) hend ds w' hI'
 have hp := BZ hcall (vY hq).1 (vY hq).2
 intro w G us hlt hv
 obtain ⟨h3, h4⟩ := hp w G us hlt hv
 refine ⟨h3, h4.mono ?_⟩
 rintro e w' ⟨v', G', rfl, e1, e2, e3⟩
 exact ⟨v', G', rfl, e1, e2, LN hd e3⟩

def aJL (P : Program) (nt : Nat) (lt rt : Nat → Option aR) (rd : Bool) (T : List Nat) : List Code → Prop
 | [] => True
 | a :: r => EW P nt lt rt rd T a ∧ aJL P nt lt rt rd T r
theorem aAR {lt rt : Nat → Option aR} {rd : Bool} {T : List Nat} : ∀ {l : List Code}, aJL P nt lt rt rd T l → ∀ a ∈ l, EW P nt lt rt rd T a
 | [], _, a, ha => by simp at ha
 | b :: r, h, a, ha => by
  rcases List.mem_cons.1 ha with rfl | ha
  ·exact h.1
  ·exact aAR h.2 a ha
theorem nC {lt rt : Nat → Option aR} {rd : Bool} {T : List Nat} {c : Code} {l : List Code} (hc : cC c = l) (h : aJL P nt lt rt rd T l) : ∀ a ∈ cC c, EW P nt lt rt rd T a := by
 rw [hc]; exact aAR h
theorem YL {lt rt : Nat → Option aR} {rd : Bool} {T : List Nat} {a : Code} {i : Nat} {s0 : aR} (hf : aG a = i) (hlt : lt i = some s0) (h : uR P nt rd T (.loop a) s0) : EW P nt lt rt rd T (.loop a) := by
 intro s hs
 rw [hf, hlt] at hs
 cases hs
 exact h
theorem aNT {lt rt : Nat → Option aR} {g : Operand} {ps : Array Tmp} {as1 a : Code} {i : Nat} {s0 : aR} (hf : aG a = i) (hrt : rt i = some s0) (h : uR P nt false [] (.rangeFunc g ps as1 a) s0) : EW P nt lt rt false [] (.rangeFunc g ps as1 a) := by
 intro _ s hs
 rw [hf, hrt] at hs
 cases hs
 exact h
def KF (c : Code) (i : Nat) : Code := (cC c).getD i .skip
def inLoop : Code → Code
 | .loop a => a
 | .rangeFunc _ _ _ a => a
 | _ => .skip
def lC : Code → Code
 | .rangeFunc _ _ as1 _ => as1
 | _ => .skip
def C4 : Code → Operand
 | .rangeFunc g _ _ _ => g
 | _ => .const undef
def RC : Code → Array Tmp
 | .rangeFunc _ ps _ _ => ps
 | _ => #[]
theorem CI {lt rt : Nat → Option aR} {r : Code} {i : Nat} {s0 : aR} (hr : r = .rangeFunc (C4 r) (RC r) (lC r) (inLoop r)) (hf : aG (inLoop r) = i) (hrt : rt i = some s0) (h : uR P nt false [] r s0) : EW P nt lt rt false [] r := by
 rw [hr] at h ⊢
 exact aNT hf hrt h
theorem E9 {E : Env} {aT : Nat} {lt rt : Nat → Option aR} (hE : aY P E) (hP : CC P) {r : Code} (hrc : r = .rangeFunc (C4 r) (RC r) (lC r) (inLoop r)) {gf : Nat} {fn : Func} {c : Code} {ts : List Ty} {ks : List Kd} {f : uC ts → Option (List (aH ks))}
  (hg : P.funcs[gf]? = some fn) (hc : fn.body = some c) (hit : OX P gf ts ks f)
  {sh : List (Nat × Kd)} {exits : List (Ex × List (Nat × Kd))} {step : Shape.den sh → aH ks → Option (Shape.den sh ⊕ aU exits)} {cap : Shape.den sh → uC ts}
  (has : cC (lC r) = []) (hbd : ∀ b ∈ cC (inLoop r), EW P nt lt rt true (rP sh 0) b)
  (hsq : ∀ x, ZG gf ts sh (C4 r) x = some (cap x))
  (hr : ∀ y e, K0 P E nt aT lt rt (RC r).toList (lC r) (inLoop r) ks sh exits y e = step y e) :
  uR P nt false [] r ⟨sh, exits, ZF sh exits (fun x => f (cap x)) step⟩ := by
 have := aRE (g := C4 r) (ps := RC r) (as1 := lC r) (body := inLoop r) hE.callee hP.mixed hit (fun args w => enters hg (hP.names gf fn hg) (by rw [hc]; rfl) args w) (by rw [has]; intro b hb; cases hb) hbd (fun x l hl => ⟨cap x, hsq x, hl⟩) hr
 rw [← hrc] at this
 exact this
end
end Go.PM
namespace Go.PM
open Go Go.RowKit
def mR : Code → Nat
 | .region _ ops _ => KT ops.toList ops.toList 0 0
 | .seq a b => mR a ||| mR b
 | .cond c a b => aRU c ||| mR a ||| mR b
 | .block _ a => mR a
 | .loop a => mR a
 | .scope a => mR a
 | .rangeFunc g _ as1 a => aRU g ||| mR as1 ||| mR a
 | _ => 0
def rL (fn : Func) : Nat := match fn.body with
 | some c => CY fn.results.toList (mR c)
 | none => 0
end Go.PM
set_option linter.unusedSimpArgs false
set_option linter.unusedVariables false
namespace Go.PM
open Go Go.RowKit
section
variable {P : Program} {n0 : Nat → Prop} {w w' : World} {G G' : Gd} {μ μ1 : Mp} {H H1 : Heap}
def DU (μ μ1 : Mp) (h : Nat) : Mp := ⟨fun r => if r < h then μ.loc r else μ1.loc (r - h), fun r => if r < h then μ.len r else μ1.len (r - h)⟩
theorem pO {h r : Nat} (hr : r < h) : (DU μ μ1 h).loc r = μ.loc r ∧ (DU μ μ1 h).len r = μ.len r := by simp [DU, hr]
theorem pM {h r : Nat} (hr : h ≤ r) : (DU μ μ1 h).loc r = μ1.loc (r - h) ∧ (DU μ μ1 h).len r = μ1.len (r - h) := by
 have : ¬ r < h := by omega
 simp [DU, this]
theorem aGO (hW : aV n0 G μ H w) (e : Ext (tI w) w G.bare aK w' G' μ1) : Ext n0 w G μ w' (G'.with G) (DU μ μ1 H.length) := {
 good := e.good
 map := fun r b hr => by
  rcases Nat.lt_or_ge r H.length with hl | hl
  ·rw [(pO hl).1]; exact hr
  ·rw [(hW.top r hl).1] at hr; cases hr
 len := fun r b hr => by
  rcases Nat.lt_or_ge r H.length with hl | hl
  ·rw [(pO hl).2]; exact hr
  ·rw [(hW.top r hl).2] at hr; cases hr
 room := e.room
 row := fun _ _ h => h
 os := e.os
 tape := e.tape
 output := e.output
 size := e.size
 drawn := e.drawn
 old := fun b hb _ => e.old b hb (Nat.not_le.2 hb)
 new := fun b hb => by
  rcases e.new b hb with h | h
  ·exact .inl h
  ·exact .inr (hW.base b h) }
theorem aM2 (hW : aV n0 G μ H w) (e : Ext (tI w) w G.bare aK w' G' μ1) (h1 : aV (tI w) G' μ1 H1 w') (ht : GK H1 = true) (hp : ∀ (r : Nat) (k : Blk), H1[r]? = some (some k) → dM.noRows k.cells = true ∧ ∀ t l, k.tag ≠ some ⟨.rows t, l⟩) : aV n0 (G'.with G) (DU μ μ1 H.length) (H ++ H1) w' := by
 have e' := aGO hW e
 have key : ∀ (r : Nat) (k : Blk), (H ++ H1)[r]? = some (some k) → (r < H.length ∧ H[r]? = some (some k)) ∨ (H.length ≤ r ∧ H1[r - H.length]? = some (some k)) := by
  intro r k hr
  rcases Nat.lt_or_ge r H.length with hl | hl
  ·rw [List.getElem?_append_left hl] at hr; exact .inl ⟨hl, hr⟩
  ·rw [List.getElem?_append_right hl] at hr; exact .inr ⟨hl, hr⟩
 refine ⟨?_, ?_, ?_, h1.lt, ?_, fun b hb => hW.base b (Nat.le_trans e.size hb), hW.rows.step e'.toMono.aK e.size (fun _ => rfl) (fun j b hj => ?_) (fun r k t l hr hg htg => ?_)⟩
 case refine_5 =>
  have hlt := (hW.rows.sep j b hj).1
  refine ⟨e.old b hlt (Nat.not_le.2 hlt), fun hg => ?_, fun r k hr hf hl => ?_⟩
  ·rcases e.new b hg with h | h
   ·exact h
   ·exact absurd hlt (Nat.not_lt.2 h)
  ·rcases key r k hr with ⟨hl2, hr⟩ | ⟨hl2, hr⟩
   ·rw [(pO hl2).1] at hl; exact ⟨r, k, hr, hf, hl⟩
   ·rw [(pM hl2).1] at hl
    obtain ⟨_, _, _, _, _, a5⟩ := h1.blk _ k b hr hl
    exact absurd hlt (Nat.not_lt.2 (a5 hf).1)
 case refine_6 =>
  rcases key r k hr with ⟨hl2, hr⟩ | ⟨hl2, hr⟩
  ·exact ⟨k, hr, rfl, rfl, rfl, (pO hl2).1⟩
  ·exact absurd htg ((hp _ k hr).2 t l)
 ·intro r k b hr hb
  rcases key r k hr with ⟨hl, hr⟩ | ⟨hl, hr⟩
  ·rw [(pO hl).1] at hb
   obtain ⟨c, a1, a2, a3, a4, a5⟩ := hW.blk r k b hr hb
   have hlt := hW.j3 hr hb
   have ho := e.old b hlt (Nat.not_le.2 hlt)
   refine ⟨c, ho.trans a1, aP.mono e'.toMono ho 0 _ a2, a3, fun hf => (e.good b (a4 hf)).1, fun hf => ⟨(a5 hf).1, fun hg => ?_⟩⟩
   rcases e.new b hg with h | h
   ·exact (a5 hf).2 h
   ·omega
  ·rw [(pM hl).1] at hb
   obtain ⟨c, a1, a2, a3, a4, a5⟩ := h1.blk _ k b hr hb
   refine ⟨c, a1, ?_, a3, a4, fun hf => ⟨hW.base b (a5 hf).1, (a5 hf).2⟩⟩
   refine mF (G := G') (G' := G'.with G) (fun b h => h) _ _ _ _ (hp _ k hr).1 ?_
   rcases GC ht hr with hg | hg
   ·obtain ⟨g, hg⟩ := Option.isSome_iff_exists.1 hg
    have := (h1.tags _ k g hr hg).1
    rw [this] at a2 ⊢
    exact j6 (fH _ _) a2
   ·exact j6 hg a2
 ·intro r k g hr hg
  rcases key r k hr with ⟨hl, hr⟩ | ⟨hl, hr⟩
  ·rw [(pO hl).2]; exact hW.tags r k g hr hg
  ·rw [(pM hl).2]; exact h1.tags _ k g hr hg
 ·intro r s k l b hr hs fk fl m1 m2
  rcases key r k hr with ⟨hl, hr⟩ | ⟨hl, hr⟩ <;> rcases key s l hs with ⟨hl2, hs⟩ | ⟨hl2, hs⟩
  ·rw [(pO hl).1] at m1
   rw [(pO hl2).1] at m2
   exact hW.inj r s k l b hr hs fk fl m1 m2
  ·rw [(pO hl).1] at m1
   rw [(pM hl2).1] at m2
   obtain ⟨_, _, _, _, _, a5⟩ := h1.blk _ l b hs m2
   have := hW.j3 hr m1
   have := (a5 fl).1
   omega
  ·rw [(pM hl).1] at m1
   rw [(pO hl2).1] at m2
   obtain ⟨_, _, _, _, _, a5⟩ := h1.blk _ k b hr m1
   have := hW.j3 hs m2
   have := (a5 fk).1
   omega
  ·rw [(pM hl).1] at m1
   rw [(pM hl2).1] at m2
   have := h1.inj _ _ k l b hr hs fk fl m1 m2
   omega
 ·intro r hr
  simp only [List.length_append] at hr
  have hl : H.length ≤ r := by omega
  rw [(pM hl).1, (pM hl).2]
  exact h1.top _ (by omega)
theorem aTQ {r sz : Nat} {v : Value} (h : VR w' G' μ1 (.own r sz) v) : VR w' G' (DU μ μ1 H.length) (.own (H.length + r) sz) v := by
 have e := pM (μ := μ) (μ1 := μ1) (h := H.length) (r := H.length + r) (by omega)
 rw [VR] at h ⊢
 rw [e.1, e.2, Nat.add_sub_cancel_left]
 exact h

def aME (P : Program) (g : FuncId) (args : List Kd) (e : TypeId) (ty : Ty) (f : aH args → Option (List ty.den)) : Prop :=
 ∀ x l, f x = some l → ∀ {n0 G μ w us}, aV n0 G μ [] w → VRs w G μ (hX args x) us → oN P n0 w G μ g us.toArray (.own 0 ty.size) [some ⟨aN ty l, e, true, false, some ⟨ty, l⟩⟩]
def a27 (t : Nat) (e : TypeId) (ty : Ty) (ex : Ex) (F : Frm) (H : Heap) : Option (List ty.den) := match ex with
 | .exit _ => none
 | _ => match CX [(t, .own e ty)] F H with
  | some x => some x.1
  | none => none
def aMH (P : Program) (E : Env) (fn : Func) (aT : Nat) (lt : Nat → Option aR) (c : Code) (args : List Kd) (t : Nat) (e : TypeId) (ty : Ty) (x : aH args) : Option (List ty.den) :=
 bif Nat.ble (hX args x).length fn.ntmps then r8 P E fn.ntmps aT lt c (start aT 0 (hX args x)) [] (a27 t e ty) else none
theorem aLW {E : Env} (hP : CC P) (hE : aY P E) {g : Nat} {fn : Func} (hg : P.funcs[g]? = some fn) {c : Code} (hc : fn.body = some c) {aT : Nat} {lt : Nat → Option aR} {args : List Kd} {t : Nat} (hr : fn.results.toList = [.tmp t]) {e : TypeId} {ty : Ty} {f : aH args → Option (List ty.den)}
  (hl : ∀ a ∈ aF c, ∀ s, lt (aG a) = some s → cU P fn.ntmps a s) (hb : ∀ x, aMH P E fn aT lt c args t e ty x = f x) : aME P g args e ty f := by
 intro x l hy n0 G μ w us hW hv
 rw [← hb] at hy
 unfold aMH at hy
 obtain ⟨hlen, hy⟩ := aI hy
 obtain ⟨⟨ex, F', H'⟩, h1, h2⟩ := jC hE.callee hP.mixed c _ _ _ _ hl hy
 obtain ⟨y, hex, hd, hyl⟩ : ∃ y, (ex = .normal ∨ ex = .ret) ∧ CX [(t, .own e ty)] F' H' = some y ∧ y.1 = l := by
  unfold a27 at h1
  split at h1
  ·cases h1
  ·rename_i hne
   split at h1
   ·rename_i y hy
    simp only [Option.some.injEq] at h1
    refine ⟨y, ?_, hy, h1⟩
    cases ex with
    | normal => exact .inl rfl
    | ret => exact .inr rfl
    | exit i => exact absurd rfl (hne i)
   ·cases h1
 obtain ⟨yl, ⟨⟩⟩ := y
 dsimp only at hyl
 subst hyl
 refine ⟨enters hg (hP.names g fn hg) (by rw [hc]; rfl) _ _, calls_of_wp hg hc ?_⟩
 have hI : I n0 w G μ fn.ntmps (start aT 0 (hX args x)) [] ⟨us.toArray ++ Array.replicate (fn.ntmps - us.toArray.size) undef, []⟩ w := ⟨G, μ, Ext.refl _ _ _ _, hW, qL (by simpa using hv) (Nat.le_of_ble_eq_true hlen)⟩
 refine wp_mono (h2 n0 w G μ _ w (fun r => hW.top r (Nat.zero_le _)) hI) ?_
 rintro e0 a' w' ⟨rfl, hI'⟩
 obtain ⟨G', μ', e', hW', hF'⟩ := sG hd (fun r => hW.top r (Nat.zero_le _)) hI'
 have hvs : mM P (oY [(t, .own e ty)] (yl, ()) 0) (vR [(t, .own e ty)] (yl, ())) fn.results.toList = some [.own 0 ty.size] := by
  rw [hr]
  simp [mM, WO, oY, o9, cM]
 obtain ⟨ws, h3, h4⟩ := kY (P := P) hW' hF' hvs
 have hres : (results fn a'.tmps).run P w' = .ok (if hh : ws.toArray.size = 1 then ws.toArray[0] else .tuple ws.toArray) w' := by
  rw [sS, Array.mapM_eq_mapM_toList]
  simp only [Sem.run_bind, Sem.run_map, h3, Result.andThen_ok, Sem.run_pure]
 have hpost : a'.defers = [] ∧ ∃ v, (results fn a'.tmps).run P w' = .ok v w' ∧ (∃ v' G'' μ'', Ending.returned v = .returned v' ∧ Ext n0 w G μ w' G'' μ'' ∧ aV n0 G'' μ'' (vR [(t, .own e ty)] (yl, ())) w' ∧ VR w' G'' μ'' (.own 0 ty.size) v') :=
  ⟨hF'.defers, _, hres, _, G', μ', rfl, e', hW', mS h4⟩
 rcases hex with rfl | rfl
 ·exact hpost
 ·exact hpost

def aXE (args : List Kd) (e : TypeId) (ty : Ty) (f : aH args → Option (List ty.den)) (qs : List PV) (H : Heap) : Option aJ3 :=
 bif cY.noRefs qs && (dM.noRows qs && ty.plain) then match aE0 args qs with
  | some x => some ⟨List ty.den, f x, fun l => (.own H.length ty.size, H ++ [some ⟨aN ty l, e, true, false, some ⟨ty, l⟩⟩])⟩
  | none => none
 else none
theorem aMT {g : FuncId} {args : List Kd} {e : TypeId} {ty : Ty} {f : aH args → Option (List ty.den)} (hf : aME P g args e ty f) : IT P (g, aXE args e ty f) := by
 intro qs H r h y hy n0 G μ w vs hW hv
 dsimp only at h
 unfold aXE at h
 obtain ⟨hn, h⟩ := aCY h
 split at h
 ·rename_i x hx
  have h := Option.some.inj h
  subst h
  simp only [Bool.and_eq_true] at hn
  obtain ⟨hn, hnr, hpl⟩ := hn
  have hW0 : aV (tI w) G.bare aK [] w := ⟨fun r k b h => by simp at h, fun r k g h => by simp at h, fun r s k l b h => by simp at h, hW.lt, fun _ _ => ⟨rfl, rfl⟩, fun _ h => h, kR.none _ _ (fun _ => rfl) _ _ (fun r k h => by simp at h)⟩
  obtain ⟨h1, h2⟩ := hf x y hy hW0 (wS args hx (mA (G := G) (G' := G.bare) (fun b h => h) _ _ _ hnr (cK _ _ hn hv)))
  refine ⟨h1, h2.mono ?_⟩
  rintro e' w' ⟨v', G', μ1, rfl, e1, e2, e3⟩
  refine ⟨v', G'.with G, DU μ μ1 H.length, rfl, aGO hW e1, aM2 hW e1 e2 rfl (fun r k hr => ?_), ?_⟩
  ·cases r with
   | zero =>
    simp only [List.getElem?_cons_zero, Option.some.injEq] at hr
    subst hr
    exact ⟨oU _ hpl _, fun t l h => by simp only [Option.some.injEq, Tg.mk.injEq] at h; obtain ⟨rfl, _⟩ := h; cases hpl⟩
   | succ r => simp at hr
  have := aTQ (H := H) (μ := μ) e3
  rw [VR] at this ⊢
  simpa using this
 ·cases h
end
end Go.PM
set_option linter.unusedSimpArgs false
set_option linter.unusedVariables false
namespace Go.PM
open Go
theorem bD (i : Int) (n : Nat) : aQ i n = decide (0 ≤ i ∧ i < n) := by
 cases i with
 | ofNat m =>
  show Nat.blt m n = _
  rw [c6]
  by_cases h : m < n
  ·rw [decide_eq_true h, decide_eq_true]; exact ⟨Int.natCast_nonneg m, Int.ofNat_lt.2 h⟩
  ·rw [decide_eq_false h, decide_eq_false]; rintro ⟨-, h2⟩; exact h (Int.ofNat_lt.1 h2)
 | negSucc m =>
  show false = _
  rw [decide_eq_false]; rintro ⟨h, -⟩; exact absurd h (by omega)
theorem kI (m n : Nat) : Nat.ble m n = decide (m ≤ n) := by
 cases h : Nat.ble m n with
 | true => exact (decide_eq_true (Nat.le_of_ble_eq_true h)).symm
 | false =>
  refine (decide_eq_false fun hl => ?_).symm
  rw [Nat.ble_eq_true_of_le hl] at h
  cases h
theorem wrap64 {x : Int} (h1 : -9223372036854775808 ≤ x) (h2 : x < 9223372036854775808) : aL .i64 x = x := by
 cases x with
 | ofNat m =>
  have : m < 9223372036854775808 := by have : (m : Int) < 9223372036854775808 := h2; omega
  unfold aL
  simp only [c6, decide_eq_true this, cond_true]
 | negSucc m =>
  have : m < 9223372036854775808 := by omega
  unfold aL
  simp only [c6, decide_eq_true this, cond_true]
theorem fF (i : Nat) (h : i < 9223372036854775807) : aL .i64 ((i : Int) + 1) = ((i + 1 : Nat) : Int) := by
 rw [wrap64 (by omega) (by omega)]; rfl
theorem aVZ {x : Int} (h1 : -9223372036854775808 ≤ x) (h2 : x < 9223372036854775808) : IntKind.wrap .i64 x = x := by
 rw [← ZM]; exact wrap64 h1 h2
theorem bT {α : Type} (p : Prop) [Decidable p] (a b : α) : (bif decide p then a else b) = if p then a else b := by
 by_cases h : p <;> simp [h]
theorem aD {τ α : Type} (x : τ) (k : τ → Option α) : aB (some x) k = k x := rfl
theorem pY (p : Prop) [Decidable p] : (!decide p) = decide (¬ p) := by by_cases h : p <;> simp [h]
theorem LL {β γ α : Type} (z : β) (f : β → Option α) (g : γ → Option α) : lN (.inl z) f g = f z := rfl
theorem nZ {β γ α : Type} (z : γ) (f : β → Option α) (g : γ → Option α) : lN (.inr z) f g = g z := rfl

section
variable {σ τ : Type} {step : σ → Option (σ ⊕ τ)}
theorem dP (n : Nat) (x : σ) : bU step (n + 1) x = match step x with
  | some (.inl y) => bU step n y
  | some (.inr z) => some z
  | none => none := rfl
theorem VA (F : Nat → σ) (k : Nat) : ∀ (m j : Nat), (∀ i, j ≤ i → i < j + m → step (F i) = some (.inl (F (i + 1)))) → bU step (m + k) (F j) = bU step k (F (j + m))
 | 0, j, _ => by rw [Nat.zero_add, Nat.add_zero]
 | m + 1, j, h => by
  rw [Nat.add_right_comm, dP, h j (Nat.le_refl _) (by omega)]
  show bU step (m + k) (F (j + 1)) = _
  rw [VA F k m (j + 1) fun i h1 h2 => h i (by omega) (by omega)]
  congr 2; omega
theorem fJ {N : Nat} (F : Nat → σ) (m : Nat) (z : τ) (hN : m < N) (h : ∀ i, i < m → step (F i) = some (.inl (F (i + 1)))) (he : step (F m) = some (.inr z)) : bU step N (F 0) = some z := by
 obtain ⟨k, rfl⟩ : ∃ k, N = m + (k + 1) := ⟨N - m - 1, by omega⟩
 rw [VA F (k + 1) m 0 (fun i _ h2 => h i (by omega)), Nat.zero_add, dP, he]
theorem J8 (F : Nat → σ) (stop : Nat → Option τ) (z : τ) (k : Nat) : ∀ (m j : Nat), (∀ i, j ≤ i → i < j + m → step (F i) = some (match stop i with | some y => .inr y | none => .inl (F (i + 1)))) → step (F (j + m)) = some (.inr z) →
   bU step (m + (k + 1)) (F j) = some (((List.range' j m).findSome? stop).getD z)
 | 0, j, _, he => by
  rw [Nat.zero_add, dP, show F j = F (j + 0) from rfl, he]; rfl
 | m + 1, j, h, he => by
  rw [Nat.add_right_comm, dP, h j (Nat.le_refl _) (by omega), List.range'_succ, List.findSome?_cons]
  cases hs : stop j with
  | some y => rfl
  | none =>
   show bU step (m + (k + 1)) (F (j + 1)) = _
   exact J8 F stop z k m (j + 1) (fun i h1 h2 => h i (by omega) (by omega)) (by rw [← he]; congr 2; omega)
theorem NF {N : Nat} (F : Nat → σ) (stop : Nat → Option τ) (m : Nat) (z : τ) (hN : m < N) (h : ∀ i, i < m → step (F i) = some (match stop i with | some y => .inr y | none => .inl (F (i + 1)))) (he : step (F m) = some (.inr z)) :
  bU step N (F 0) = some (((List.range m).findSome? stop).getD z) := by
 obtain ⟨k, rfl⟩ : ∃ k, N = m + (k + 1) := ⟨N - m - 1, by omega⟩
 rw [List.range_eq_range']
 exact J8 F stop z k m 0 (fun i _ h2 => h i (by omega)) (by rwa [Nat.zero_add])
end
end Go.PM
set_option linter.unusedSimpArgs false
set_option linter.unusedVariables false
namespace Go.Proofs
open Go Go.RowKit Go.Sort Go.Lib
set_option maxHeartbeats 6400000
set_option maxRecDepth 100000
theorem Tryz.L4 (u : Nat) (hu64 : u < 18446744073709551616) (w : World) (htab : Lib.TabIs Tryz.prog w "internal/strconv.uint64pow10" .u64 Lib.pow10Tab) :
  Calls Tryz.prog 205 #[.int .u64 u, .int .i64 10] w fun e w' => e = .returned (.string ⟨(Lib.decDigits u).toArray⟩) ∧ ∃ k os, w' = grow (w.drewN k) os := by
 by_cases hs : u < 100
 ·go_enter Tryz.func205, Tryz.ntmps205
  have hwr : IntKind.i64.wrap (u : Int) = (u : Int) := by rw [IntKind.wrap_i64]; omega
  go_wp2_with (go_at_call 178; refine (Tryz.internal_strconv_small u hs _).mono ?_; rintro e w' ⟨rfl, rfl⟩)
  go_ret
  exact ⟨rfl, 0, #[], by simp [World.drewN_zero]⟩
 ·have hu1 : 1 ≤ u := by omega
  have hnd20 : Lib.nDigits u ≤ 20 := by have := Lib.numDigits_eq u hu1 hu64; split at this <;> omega
  have hal : Tryz.prog.arrayLen 252 = 24 := by simp [Program.arrayLen, Tryz.underlying252]
  have hsl : ∀ W, (Instr.sliceAt 252 (.pointer (some ⟨w.heap.size, 0, none⟩)) none (some (.int .i64 (Lib.nDigits u : Int))) none).run Tryz.prog W = .ok (.slice (some ⟨w.heap.size, 0, none⟩) (Lib.nDigits u) 24) W := fun W => by
   rw [run_sliceAt_array_h W 252 ⟨w.heap.size, 0, none⟩ (by simp [Program.arrayLen, Program.elem, Tryz.underlying252]) .i64 (Lib.nDigits u : Int) (by omega) (by rw [hal]; omega)]
   go_simp
  have hH0 := Lib.holds_zero0 w 252 (Lib.nDigits u) (by omega)
  have hfmt := Tryz.internal_strconv_formatBase10 w.heap.size 0 24 u (Array.replicate (Lib.nDigits u) 0) (w.alloc (.cells Lib.zeros24 252)) hH0 (by rw [Array.size_replicate]; exact Lib.lt_pow_nDigits u) hu64 (by rw [Array.size_replicate]; omega)
  rw [Array.size_replicate] at hfmt
  have HH0 := Lib.hid hH0
  clear hH0 hal
  go_enter Tryz.func205, Tryz.ntmps205
  go_wp2_with (first
   | (go_at_call 179; refine (Tryz.internal_strconv_numDigits u hu1 hu64 _ (Lib.tabIs_alloc htab _)).mono ?_; rintro e w' ⟨rfl, rfl⟩))
  go_at_call 180
  refine hfmt.mono ?_
  rintro e w' ⟨rfl, k, v', dk, rfl, hF⟩
  have hcv : (convert 187 9 (.slice (some ⟨w.heap.size, 0, none⟩) (Lib.nDigits u) 24)).run Tryz.prog ((putRow (fun (b : UInt8) => Value.int .u8 (b.toNat : Int)) (w.alloc (.cells Lib.zeros24 252)) w.heap.size 0 dk).drewN k) = .ok (.string ⟨(Lib.decDigits u).toArray⟩) ((putRow (fun (b : UInt8) => Value.int .u8 (b.toNat : Int)) (w.alloc (.cells Lib.zeros24 252)) w.heap.size 0 dk).drewN k) := by
   have h := run_convert_bytes_back (P := Tryz.prog) ((putRow (fun (b : UInt8) => Value.int .u8 (b.toNat : Int)) (w.alloc (.cells Lib.zeros24 252)) w.heap.size 0 dk).drewN k) 187 9 5 ⟨w.heap.size, 0, none⟩ 24 (Lib.decDigits u) Tryz.underlying187 Tryz.underlying5 Tryz.underlying9 (fun j hj => by
    rw [Lib.row_is_numeral hF j hj, Lib.add_plain, World.cell?_drewN]
    exact cell?_putRow (fun (b : UInt8) => Value.int .u8 (b.toNat : Int)) _ w.heap.size 0 _ dk HH0.out (by rw [hF.size, Array.size_replicate]) j (by rw [hF.size]; rw [Lib.decDigits_length] at hj; exact hj))
   rw [Lib.decDigits_length] at h
   exact h
  go_wp2
  go_ret
  obtain ⟨os, eo⟩ := Lib.fin_at w (.cells Lib.zeros24 252) dk k 0
  exact ⟨rfl, k, os, eo⟩
theorem Tryz.I4 (u : Nat) (hu64 : u < 18446744073709551616) (w : World) (htab : Lib.TabIs Tryz.prog w "internal/strconv.uint64pow10" .u64 Lib.pow10Tab) :
  Calls Tryz.prog 186 #[.int .u64 u, .int .i64 10] w fun e w' => e = .returned (.string ⟨(Lib.decDigits u).toArray⟩) ∧ ∃ k os, w' = grow (w.drewN k) os := by
 go_enter Tryz.func186, Tryz.ntmps186
 go_wp2_with (go_at_call 205; refine (Tryz.L4 u hu64 _ htab).mono ?_; rintro e w' ⟨rfl, k, os, rfl⟩)
 go_ret
 exact ⟨rfl, k, os, rfl⟩
end Go.Proofs
set_option linter.unusedSimpArgs false
set_option linter.unusedVariables false
namespace Go.PM
open Go Go.RowKit Go.Proofs
set_option maxRecDepth 100000
theorem aLQ {w : World} {G : Nat → Prop} (h : Lt w G) : Lib.TabIs Tryz.prog w "internal/strconv.uint64pow10" .u64 Lib.pow10Tab := by
 have hm : (0, aL7 .u64 [1, 10, 100, 1000, 10000, 100000, 1000000, 10000000, 100000000, 1000000000, 10000000000, 100000000000, 1000000000000, 10000000000000, 100000000000000, 1000000000000000, 10000000000000000, 100000000000000000, 1000000000000000000, 10000000000000000000]) ∈ a0H := by simp [a0H]
 obtain ⟨-, t, fr, ht⟩ := h.tab _ hm
 have hg : Tryz.prog.globalNamed "internal/strconv.uint64pow10" = some 0 := by kernel_rfl
 unfold Lib.TabIs World.var?
 rw [hg]
 simp only [Option.bind_some]
 rw [ht]
 rfl
theorem aG4 {w : World} {G : Nat → Prop} (hG : ∀ b, G b → b < w.heap.size) (k : Nat) (os : Array Obj) : Ext (tI w) w (Gd.of G) aK (Sort.grow (w.drewN k) os) (Gd.of G) aK :=
 have hb : ∀ b, b < w.heap.size → (Sort.grow (w.drewN k) os).heap[b]? = w.heap[b]? := fun b hb => Lib.heap_grow_old w k os b hb
 {good := fun b h => ⟨h, hb b (hG b h)⟩
  row := fun _ _ h => h
  map := fun _ _ h => (by cases h)
  len := fun _ _ h => (by cases h)
  room := fun b n ⟨c, t, fr, h1, h2⟩ => ⟨c, t, fr, by rw [hb b (eW h1)]; exact h1, h2⟩
  os := rfl
  tape := rfl
  output := rfl
  size := by show w.heap.size ≤ (w.heap ++ os).size; simp
  drawn := Nat.le_add_right _ _
  old := fun b h _ => hb b h
  new := fun b h => .inl h }
theorem aCM {w w' : World} {G : Nat → Prop} (hG : ∀ b, G b → b < w.heap.size) (h : Below w.heap.size w w') (hd : w.drawn ≤ w'.drawn) : Ext (tI w) w (Gd.of G) aK w' (Gd.of G) aK :=
 {good := fun b hb => ⟨hb, h.block b (hG b hb)⟩
  row := fun _ _ h => h
  map := fun _ _ h => (by cases h)
  len := fun _ _ h => (by cases h)
  room := fun b n ⟨c, t, fr, h1, h2⟩ => ⟨c, t, fr, by rw [h.block b (eW h1)]; exact h1, h2⟩
  os := h.os
  tape := h.tape
  output := h.output
  size := h.size
  drawn := hd
  old := fun b hb _ => h.block b hb
  new := fun b hb => .inl hb }
theorem UB {w : World} {G : Nat → Prop} (hG : ∀ b, G b → b < w.heap.size) (e : TypeId) (t : ByteArray) : Ext (tI w) w (Gd.of G) aK (Lib.bytesWorld w e t) (Gd.of G) aK :=
 aCM hG (Joins.below_bytesWorld _ w e t (Nat.le_refl _)) (by
  show w.drawn ≤ ((w.drew.alloc _).freeze _ 1).drawn
  simp [World.freeze, World.alloc, World.drew, -World.alloc_eq, -World.drew_eq])
def UP : Nat → Nat → List UInt8 → List UInt8
 | 0, _, acc => acc
 | f + 1, u, acc => bif Nat.blt u 10 then UInt8.ofNat (48 + u) :: acc else UP f (u / 10) (UInt8.ofNat (48 + u % 10) :: acc)
theorem ZT : ∀ (f u : Nat) (acc : List UInt8), u < 10 ^ (f + 1) → UP (f + 1) u acc = Lib.decDigits u ++ acc
 | f, u, acc, h => by
  rw [Lib.decDigits]
  by_cases h1 : u < 10
  ·rw [dif_pos h1, UP]
   have : Nat.blt u 10 = true := by rw [c6]; simpa using h1
   rw [this]; rfl
  ·rw [dif_neg h1, UP]
   have : Nat.blt u 10 = false := by rw [c6]; simpa using h1
   rw [this, cond_false]
   cases f with
   | zero => omega
   | succ f =>
    rw [ZT f (u / 10) _ (by rw [Nat.pow_succ] at h; omega)]
    simp
def aGN : Int → ByteArray
 | .ofNat u => ⟨(UP 20 u []).toArray⟩
 | .negSucc u => ⟨(45 :: UP 20 (u + 1) []).toArray⟩
theorem XJ {n : Int} (h : n.natAbs < 10 ^ 20) : aGN n = ⟨(Lib.itoa n).toArray⟩ := by
 cases n with
 | ofNat u =>
  have h1 : ¬ (Int.ofNat u < 0) := by simp
  unfold Lib.itoa
  rw [if_neg h1]
  show (⟨(UP (19 + 1) u []).toArray⟩ : ByteArray) = ⟨(Lib.decDigits u).toArray⟩
  rw [ZT 19 u [] h, List.append_nil]
 | negSucc u =>
  have h1 : Int.negSucc u < 0 := Int.negSucc_lt_zero u
  unfold Lib.itoa
  rw [if_pos h1]
  show (⟨(45 :: UP (19 + 1) (u + 1) []).toArray⟩ : ByteArray) = ⟨(45 :: Lib.decDigits (u + 1)).toArray⟩
  rw [ZT 19 (u + 1) [] h, List.append_nil]
def sJ (x : aH [.int .i64]) : Option (aH [.str]) := match x with
 | (n, ()) => bif !(ltI n (-9223372036854775808)) && !(ltI 9223372036854775807 n) then some (aGN n, ()) else none
def sA (x : aH [.str]) : Option (aH [.int .i64, .nilI]) := match x with
 | (s, ()) => bif Nat.ble s.size 18 then (match Lib.atoi s.data.toList with
  | some n => some (n, (), ())
  | none => none) else none
def mI (x : aH [.str, .int .i64, .int .i64]) : Option (aH [.int .i64, .nilI]) := match x with
 | (s, b, c, ()) => bif Nat.ble s.size 1000000000 && (eqI b 10 && eqI c 64) then (match Lib.parseIntB 64 s.data.toList with
  | .ok n => some (n, (), ())
  | _ => none) else none
def lM (x : aH [.str, .int .i64, .int .i64]) : Option (aH [.int .u64, .nilI]) := match x with
 | (s, b, c, ()) => bif Nat.ble s.size 1000000000 && (eqI b 10 && eqI c 64) then (match Lib.parseUintB 64 s.data.toList with
  | .ok n => some ((n : Int), (), ())
  | _ => none) else none
def kM (x : aH [.int .u64, .int .i64]) : Option (aH [.str]) := match x with
 | (n, b, ()) => bif !(ltI n 0) && (ltI n 18446744073709551616 && eqI b 10) then some (aGN n, ()) else none
theorem a2Y {w : World} {G : Gd} {u : Value} {vs : Array Value} (h : VRs w G aK [.lit u] vs.toList) : vs = #[u] := by
 rw [VRs] at h
 obtain ⟨v, us, hvs, h1, h2⟩ := h
 rw [VRs] at h2
 rw [VR] at h1
 subst h2; subst h1
 exact Array.ext' (by simpa using hvs)
theorem a4M {w : World} {G : Gd} {u1 u2 : Value} {vs : Array Value} (h : VRs w G aK [.lit u1, .lit u2] vs.toList) : vs = #[u1, u2] := by
 rw [VRs] at h
 obtain ⟨v, us, hvs, h1, h2⟩ := h
 rw [VRs] at h2
 obtain ⟨v2, us2, hvs2, h3, h4⟩ := h2
 rw [VRs] at h4
 rw [VR] at h1 h3
 subst h4; subst h3; subst h1; subst hvs2
 exact Array.ext' (by simpa using hvs)
theorem a2M {w : World} {G : Gd} {u1 u2 u3 : Value} {vs : Array Value} (h : VRs w G aK [.lit u1, .lit u2, .lit u3] vs.toList) : vs = #[u1, u2, u3] := by
 rw [VRs] at h
 obtain ⟨v, us, hvs, h1, h2⟩ := h
 rw [VRs] at h2
 obtain ⟨v2, us2, hvs2, h3, h4⟩ := h2
 rw [VRs] at h4
 obtain ⟨v3, us3, hvs3, h5, h6⟩ := h4
 rw [VRs] at h6
 rw [VR] at h1 h3 h5
 subst h6; subst h5; subst h3; subst h1; subst hvs3; subst hvs2
 exact Array.ext' (by simpa using hvs)
theorem KM {w : World} {G : Gd} (k : IntKind) (n : Int) : VR w G aK (.tuple [.lit (.int k n), .lit .nilIface]) (.tuple #[.int k n, .nilIface]) := by
 rw [VR]
 refine ⟨_, rfl, ?_⟩
 show VRs w G aK _ [.int k n, .nilIface]
 rw [VRs]
 refine ⟨_, _, rfl, by rw [VR], ?_⟩
 rw [VRs]
 exact ⟨_, _, rfl, by rw [VR], by rw [VRs]⟩
theorem aSP {w : World} {G : Gd} (s : ByteArray) : VR w G aK (.lit (.string s)) (.string s) := by rw [VR]
theorem YM : cL Tryz.prog 86 [.int .i64] [.str] sJ := by
 rintro ⟨n, ⟨⟩⟩ y h w G vs hG hv
 unfold sJ at h
 obtain ⟨hb, h⟩ := aI h
 simp only [Bool.and_eq_true, Bool.not_eq_true', aO, decide_eq_false_iff_not] at hb
 obtain rfl := Option.some.inj h
 obtain rfl := a2Y hv
 refine ⟨enters Tryz.func86 (by kernel_rfl) (by kernel_rfl) _ _, (Tryz.strconv_Itoa n (by omega) (by omega) w (aLQ hG)).mono ?_⟩
 rintro e w' ⟨rfl, k, os, rfl⟩
 rw [← XJ (by omega)]
 have he := aG4 hG.lt k os
 exact ⟨_, G, rfl, he, fun b hb => Nat.lt_of_lt_of_le (hG b hb) he.size, aSP _⟩
theorem X2 : cL Tryz.prog 154 [.str] [.int .i64, .nilI] sA := by
 rintro ⟨s, ⟨⟩⟩ y h w G vs hG hv
 unfold sA at h
 obtain ⟨hb, h4⟩ := aI h
 clear h
 have hl := Nat.le_of_ble_eq_true hb
 split at h4
 ·rename_i n hn
  obtain rfl := Option.some.inj h4
  obtain rfl := a2Y hv
  refine ⟨enters Tryz.func154 (by kernel_rfl) (by kernel_rfl) _ _, (Tryz.strconv_Atoi s n hl hn w).mono ?_⟩
  rintro e w' ⟨rfl, t, rfl⟩
  have he := UB hG.lt 5 t
  exact ⟨_, G, rfl, he, fun b hb => Nat.lt_of_lt_of_le (hG b hb) he.size, KM _ n⟩
 ·cases h4
theorem N4 : cL Tryz.prog 143 [.str, .int .i64, .int .i64] [.int .i64, .nilI] mI := by
 rintro ⟨s, b, c, ⟨⟩⟩ y h w G vs hG hv
 unfold mI at h
 obtain ⟨hb, h4⟩ := aI h
 clear h
 simp only [Bool.and_eq_true, eV, decide_eq_true_eq] at hb
 obtain ⟨hb1, rfl, rfl⟩ := hb
 have hl := Nat.le_of_ble_eq_true hb1
 split at h4
 ·rename_i n hn
  obtain rfl := Option.some.inj h4
  obtain rfl := a2M hv
  refine ⟨enters Tryz.func143 (by kernel_rfl) (by kernel_rfl) _ _, (Tryz.strconv_ParseInt_10_at64_ok s (by omega) n hn w).mono ?_⟩
  rintro e w' ⟨rfl, hw⟩
  rcases hw with rfl | ⟨t, rfl⟩
  ·exact ⟨_, G, rfl, Ext.refl _ _ _ _, hG.lt, KM _ n⟩
  ·have he := UB hG.lt 5 t
   exact ⟨_, G, rfl, he, fun b hb => Nat.lt_of_lt_of_le (hG b hb) he.size, KM _ n⟩
 ·cases h4
theorem MH : cL Tryz.prog 204 [.str, .int .i64, .int .i64] [.int .u64, .nilI] lM := by
 rintro ⟨s, b, c, ⟨⟩⟩ y h w G vs hG hv
 unfold lM at h
 obtain ⟨hb, h4⟩ := aI h
 clear h
 simp only [Bool.and_eq_true, eV, decide_eq_true_eq] at hb
 obtain ⟨hb1, rfl, rfl⟩ := hb
 have hl := Nat.le_of_ble_eq_true hb1
 split at h4
 ·rename_i n hn
  obtain rfl := Option.some.inj h4
  obtain rfl := a2M hv
  refine ⟨enters Tryz.func204 (by kernel_rfl) (by kernel_rfl) _ _, (Tryz.strconv_ParseUint_10_at64_ok s (by omega) n hn w).mono ?_⟩
  rintro e w' ⟨rfl, hw⟩
  rcases hw with rfl | rfl
  ·exact ⟨_, G, rfl, Ext.refl _ _ _ _, hG.lt, KM _ n⟩
  ·have he := UB hG.lt 5 s
   exact ⟨_, G, rfl, he, fun b hb => Nat.lt_of_lt_of_le (hG b hb) he.size, KM _ n⟩
 ·cases h4
theorem JO : cL Tryz.prog 186 [.int .u64, .int .i64] [.str] kM := by
 rintro ⟨n, b, ⟨⟩⟩ y h w G vs hG hv
 unfold kM at h
 obtain ⟨hb, h4⟩ := aI h
 clear h
 simp only [Bool.and_eq_true, Bool.not_eq_true', aO, eV, decide_eq_true_eq, decide_eq_false_iff_not] at hb
 obtain ⟨hb1, hb2, rfl⟩ := hb
 obtain rfl := Option.some.inj h4
 obtain rfl := a4M hv
 obtain ⟨u, hu⟩ : ∃ u : Nat, (n : Int) = (u : Int) := ⟨Int.toNat n, (Int.toNat_of_nonneg (Int.not_lt.1 hb1)).symm⟩
 subst hu
 refine ⟨enters Tryz.func186 (by kernel_rfl) (by kernel_rfl) _ _, (Tryz.I4 u (Int.ofNat_lt.1 hb2) w (aLQ hG)).mono ?_⟩
 rintro e w' ⟨rfl, k, os, rfl⟩
 have hi : (⟨(Lib.decDigits u).toArray⟩ : ByteArray) = aGN (u : Int) := by
  have h1 : u < 10 ^ 20 := Nat.lt_trans (Int.ofNat_lt.1 hb2) (by decide)
  rw [XJ (by simpa using h1), Lib.itoa_nonneg]
 rw [hi]
 have he := aG4 hG.lt k os
 exact ⟨_, G, rfl, he, fun b hb => Nat.lt_of_lt_of_le (hG b hb) he.size, aSP _⟩
abbrev MI : Ent := ⟨86, [.int .i64], [.str], sJ⟩
theorem RZ : Ent.OK Tryz.prog MI := YM
abbrev MX : Ent := ⟨154, [.str], [.int .i64, .nilI], sA⟩
theorem SK : Ent.OK Tryz.prog MX := X2
abbrev C3 : Ent := ⟨143, [.str, .int .i64, .int .i64], [.int .i64, .nilI], mI⟩
theorem J6 : Ent.OK Tryz.prog C3 := N4
abbrev AQ : Ent := ⟨204, [.str, .int .i64, .int .i64], [.int .u64, .nilI], lM⟩
theorem IZ : Ent.OK Tryz.prog AQ := MH
abbrev yV : Ent := ⟨186, [.int .u64, .int .i64], [.str], kM⟩
theorem H7 : Ent.OK Tryz.prog yV := JO
end Go.PM
set_option linter.unusedSimpArgs false
set_option linter.unusedVariables false
namespace Go.PM
open Go Go.RowKit Go.Proofs
set_option maxRecDepth 100000
set_option maxHeartbeats 4000000
/-! slices.Clone[schisma/api.Row,int] -/
def f64 (x : aH [.list TyE]) : Option (aH [.list TyE]) := match x with
 | (v0, ()) =>
  bif Nat.blt 0 v0.length then bif Nat.ble v0.length 1048576 then some (v0, ()) else none else none
noncomputable def c64 : Code := aS Tryz.f64
abbrev E64 : Env := bI []
theorem aYD : aY Tryz.prog E64 := aX trivial
def a3Q (id : Nat) : Option aR := none
theorem aWG : aF c64 = [] := by kernel_rfl
theorem a0D : ∀ x, bQ Tryz.prog E64 Tryz.f64 (aC Tryz.f64) a3Q c64 [.list TyE] [.list TyE] x = f64 x := by
 rintro ⟨v0, ⟨⟩⟩
 kernel_rfl
theorem a5R : cL Tryz.prog 64 [.list TyE] [.list TyE] f64 := by
 exact aZ aJ aYD Tryz.func64 (c := c64) (by kernel_rfl) (aT := aC Tryz.f64) (lt := a3Q) (aE aWG trivial) a0D
/-! slices.Clone of nothing -/
theorem aS9 : ∃ i : TypeInfo, Tryz.prog.info? 3 = some i := ⟨(Tryz.prog.info? 3).get (by kernel_rfl), (Option.some_get _).symm⟩
theorem Tryz.aLO (w : World) (a : Option Addr) (n c n' c' : Nat) : (binOp .eql 23 (.slice a n c) (.slice none n' c')).run Tryz.prog w = .ok (.bool a.isNone) w := Lib.run_eql_slice_nil w _ _ a n c n' c' Tryz.underlying23
theorem aN9 (c : Nat) (w : World) : Calls Tryz.prog 64 #[.slice none 0 c] w fun e w' => e = .returned (.slice none 0 0) ∧ w' = w := by
 have qT := Tryz.aLO
 go_enter Tryz.func64, Tryz.ntmps64
 go_wp2
 go_ret
 exact ⟨rfl, rfl⟩
set_option maxHeartbeats 2000000 in
theorem aH7 (p : Addr) (c : Nat) (w : World) : Calls Tryz.prog 64 #[.slice (some p) 0 c] w fun e w' => e = .returned (.slice (some ⟨w.heap.size, 0, none⟩) 0 0) ∧ w' = w.alloc (.cells #[] 3) := by
 have qT := Tryz.aLO
 obtain ⟨i, hi⟩ := aS9
 have hrz : ∀ ty, (Builtin.append_ #[23, 23] ty #[.slice (some ⟨w.heap.size, 0, none⟩) 0 0, .slice (some p) 0 c]).run Tryz.prog (w.alloc (.cells #[] 3)) = .ok (.slice (some ⟨w.heap.size, 0, none⟩) 0 0) (w.alloc (.cells #[] 3)) := fun ty =>
  run_append_nothing _ 23 23 ty 3 i Tryz.underlying23 hi _ 0 0 (Nat.le_refl _) _ (Src.ofSlice _ (e' := 3) Tryz.underlying23 p 0 c [] (Nat.zero_mul _).symm (fun j u hu => by simp at hu) (fun u hu => by cases hu))
 go_enter Tryz.func64, Tryz.ntmps64
 go_wp2_with (at_builtin; refine Lib.wpList_append_run _ rfl _ _ _ _ rfl _ _ rfl rfl _ _ (hrz _) ?_)
 all_goals (go_ret; exact ⟨rfl, rfl⟩)
def aBT (x : aH [.list TyE]) : Option (aH [.list TyE]) := match x with
 | (l, ()) => bif Nat.ble l.length 1048576 then some (l, ()) else none
theorem a3K : cL Tryz.prog 64 [.list TyE] [.list TyE] aBT := by
 rintro ⟨l, ⟨⟩⟩ y h
 unfold aBT at h
 obtain ⟨hl, h4⟩ := aI h
 clear h
 have h4 := Option.some.inj h4
 subst h4
 cases l with
 | cons a l =>
  refine a5R (a :: l, ()) _ ?_
  unfold f64
  dsimp only
  rw [hl, show Nat.blt 0 (a :: l).length = true from rfl]; rfl
 | nil =>
  intro w G vs hG hv
  have k1 : VRs w (Gd.of G) aK [zW TyE [] none] vs.toList := hv
  rw [VRs] at k1
  obtain ⟨v, us, hvs, g1, g2⟩ := k1
  rw [VRs] at g2
  subst g2
  unfold zW at g1
  rw [VR] at g1
  obtain ⟨g1, -⟩ := g1
  rw [VR] at g1
  obtain ⟨ao, c, rfl, -, -, -⟩ := g1
  have hvs : vs = #[.slice ao 0 c] := Array.ext' (by simpa using hvs)
  subst hvs
  refine ⟨enters Tryz.func64 (by kernel_rfl) (by kernel_rfl) _ _, ?_⟩
  have hr : ∀ {w' : World} {G' : Nat → Prop} (ao' : Option Addr), VR w' (Gd.of G') aK (aGI [.list TyE] ([], ())) (.slice ao' 0 0) := by
   intro w' G' ao'
   show VR w' (Gd.of G') aK (zW TyE [] none) _
   unfold zW
   rw [VR]
   refine ⟨?_, rfl⟩
   rw [VR]
   exact ⟨ao', 0, rfl, Nat.le_refl _, fun k hk => (by cases hk), .inl rfl⟩
  cases ao with
  | none =>
   refine (aN9 c w).mono ?_
   rintro e w' ⟨rfl, rfl⟩
   exact ⟨_, G, rfl, Ext.refl _ _ _ _, hG, hr _⟩
  | some p =>
   refine (aH7 p c w).mono ?_
   rintro e w' ⟨rfl, rfl⟩
   have he := aCM hG (((Below.refl _ w).alloc (Nat.le_refl _) (.cells #[] 3))) (Nat.le_refl _)
   exact ⟨_, G, rfl, he, fun b hb => Nat.lt_of_lt_of_le (hG b hb) he.size, hr _⟩
abbrev aYI : Ent := ⟨64, [.list TyE], [.list TyE], aBT⟩
theorem aMD : Ent.OK Tryz.prog aYI := a3K
end Go.PM
set_option linter.unusedSimpArgs false
set_option linter.unusedVariables false
namespace Go.PM
open Go Go.RowKit Go.Proofs
set_option maxRecDepth 100000
set_option maxHeartbeats 4000000
/-! cmp.isNaN[int] -/
def f98 (x : aH [.int .i64]) : Option (aH [.bool]) := match x with
 | (v0, ()) =>
  some (!(eqI v0 v0), ())
noncomputable def c98 : Code := aS Tryz.f98
abbrev E98 : Env := bI []
theorem a0A : aY Tryz.prog E98 := aX trivial
def a26 (id : Nat) : Option aR := none
theorem aXC : aF c98 = [] := by kernel_rfl
theorem aY7 : ∀ x, bQ Tryz.prog E98 Tryz.f98 (aC Tryz.f98) a26 c98 [.int .i64] [.bool] x = f98 x := by
 rintro ⟨v0, ⟨⟩⟩
 kernel_rfl
theorem a4Z : cL Tryz.prog 98 [.int .i64] [.bool] f98 := by
 exact aZ aJ a0A Tryz.func98 (c := c98) (by kernel_rfl) (aT := aC Tryz.f98) (lt := a26) (aE aXC trivial) aY7
abbrev e98 : Ent := ⟨98, [.int .i64], [.bool], f98⟩
theorem aY0 : Ent.OK Tryz.prog e98 := a4Z

/-! cmp.Compare[int] -/
def f74 (x : aH [.int .i64, .int .i64]) : Option (aH [.int .i64]) := match x with
 | (v0, v1, ()) =>
  aB (f98 (v0, ())) fun y1 =>
  aB (f98 (v1, ())) fun y2 =>
  bif y1.1 then
   bif y2.1 then
    some (0, ())
   else some ((-1), ())
  else bif y2.1 then
   some (1, ())
  else bif ltI v0 v1 then
   some ((-1), ())
  else bif ltI v1 v0 then
   some (1, ())
  else some (0, ())
noncomputable def c74 : Code := aS Tryz.f74
abbrev E74 : Env := bI [e98]
theorem aYL : aY Tryz.prog E74 := aX ⟨aY0, trivial⟩
def a33 (id : Nat) : Option aR := none
theorem aW6 : aF c74 = [] := by kernel_rfl
theorem aYE : ∀ x, bQ Tryz.prog E74 Tryz.f74 (aC Tryz.f74) a33 c74 [.int .i64, .int .i64] [.int .i64] x = f74 x := by
 rintro ⟨v0, v1, ⟨⟩⟩
 kernel_rfl
theorem a5C : cL Tryz.prog 74 [.int .i64, .int .i64] [.int .i64] f74 := by
 exact aZ aJ aYL Tryz.func74 (c := c74) (by kernel_rfl) (aT := aC Tryz.f74) (lt := a33) (aE aW6 trivial) aYE
abbrev e74 : Ent := ⟨74, [.int .i64, .int .i64], [.int .i64], f74⟩
theorem a1D : Ent.OK Tryz.prog e74 := a5C

/-! slices.Compare[schisma/api.Row,int] -/
abbrev SU : List (Nat × Kd) := [(0, .list TyE), (1, .list TyE), (9, .list TyE), (10, .int .i64), (11, .int .i64)]
abbrev X4 : List (Ex × List (Nat × Kd)) := [(.ret, [(4, .int .i64)]), (.exit 0, [(0, .list TyE), (1, .list TyE)])]
def J5 (x : Shape.den SU) : Option (Shape.den SU ⊕ aU X4) := match x with
 | (v0, v1, v9, v10, v11, ()) =>
  bif ltI v11 v10 then
   bif aQ v11 v9.length then bif !(ltI v11 (v1.length : Int)) then
    some (.inr (.inl (1, ())))
   else bif aQ v11 v1.length then aB (f74 ((v9.getD v11.toNat 0), (v1.getD v11.toNat 0), ())) fun y2 =>
   bif !(eqI y2.1 0) then
    some (.inr (.inl (y2.1, ())))
   else some (.inl (v0, v1, v9, v10, (aL .i64 (v11 + 1)), ())) else none else none
  else some (.inr (.inr ((v0, v1, ()))))
def P6 (x : Shape.den SU) : Option (aU X4) := bU J5 (2 ^ 64) x
def f57 (x : aH [.list TyE, .list TyE]) : Option (aH [.int .i64]) := match x with
 | (v0, v1, ()) =>
  aB (P6 (v0, v1, v0, (v0.length : Int), 0, ())) fun z3 =>
  lN z3 (fun a4 => some (a4.1, ())) fun b5 =>
  bif ltI (b5.1.length : Int) (b5.2.1.length : Int) then
   some ((-1), ())
  else some (0, ())
noncomputable def c57 : Code := aS Tryz.f57
abbrev E57 : Env := bI [e74]
theorem aRQ : aY Tryz.prog E57 := aX ⟨a1D, trivial⟩
noncomputable def aIA : Code := fB c57 0
def aY4 (id : Nat) : Option aR := bif Nat.beq id 2 then some ⟨SU, X4, P6⟩ else none
theorem aOD : ∀ x, eU Tryz.prog E57 36 (aC Tryz.f57) aY4 aIA SU X4 x = J5 x := by
 rintro ⟨v0, v1, v9, v10, v11, ⟨⟩⟩
 kernel_rfl
theorem a0I : aF aIA = [] := by kernel_rfl
theorem aNR : aG aIA = 2 := by kernel_rfl
theorem aT5 : cU Tryz.prog 36 aIA ⟨SU, X4, P6⟩ := by
 exact cW aRQ.callee aJ.mixed _ (aE a0I trivial) aOD
theorem aU8 : aF c57 = [aIA] := by kernel_rfl
theorem a0W : ∀ x, bQ Tryz.prog E57 Tryz.f57 (aC Tryz.f57) aY4 c57 [.list TyE, .list TyE] [.int .i64] x = f57 x := by
 rintro ⟨v0, v1, ⟨⟩⟩
 kernel_rfl
theorem a4T : cL Tryz.prog 57 [.list TyE, .list TyE] [.int .i64] f57 := by
 exact aZ aJ aRQ Tryz.func57 (c := c57) (by kernel_rfl) (aT := aC Tryz.f57) (lt := aY4) (aE aU8 ⟨cX aNR rfl aT5, trivial⟩) a0W
abbrev e57 : Ent := ⟨57, [.list TyE, .list TyE], [.int .i64], f57⟩
theorem aYW : Ent.OK Tryz.prog e57 := a4T

/-! schisma/row.Compare -/
def f35 (x : aH [.list TyE, .list TyE]) : Option (aH [.int .i64]) := match x with
 | (v0, v1, ()) =>
  aB (f57 (v0, v1, ())) fun y1 =>
  some (y1.1, ())
noncomputable def c35 : Code := aS Tryz.f35
abbrev E35 : Env := bI [e57]
theorem aXY : aY Tryz.prog E35 := aX ⟨aYW, trivial⟩
def a3W (id : Nat) : Option aR := none
theorem aXD : aF c35 = [] := by kernel_rfl
theorem a0F : ∀ x, bQ Tryz.prog E35 Tryz.f35 (aC Tryz.f35) a3W c35 [.list TyE, .list TyE] [.int .i64] x = f35 x := by
 rintro ⟨v0, v1, ⟨⟩⟩
 kernel_rfl
theorem a5E : cL Tryz.prog 35 [.list TyE, .list TyE] [.int .i64] f35 := by
 exact aZ aJ aXY Tryz.func35 (c := c35) (by kernel_rfl) (aT := aC Tryz.f35) (lt := a3W) (aE aXD trivial) a0F
abbrev e35 : Ent := ⟨35, [.list TyE, .list TyE], [.int .i64], f35⟩
theorem aTM : Ent.OK Tryz.prog e35 := a5E

/-! schisma/row.fits -/
def f60 (x : aH [.int .i64]) : Option (aH [.bool]) := match x with
 | (v0, ()) =>
  bif !(ltI v0 (-1000000000)) then
   some (!(ltI 1000000000 v0), ())
  else some (false, ())
noncomputable def c60 : Code := aS Tryz.f60
abbrev E60 : Env := bI []
theorem a1A : aY Tryz.prog E60 := aX trivial
def a3C (id : Nat) : Option aR := none
theorem aWN : aF c60 = [] := by kernel_rfl
theorem a1H : ∀ x, bQ Tryz.prog E60 Tryz.f60 (aC Tryz.f60) a3C c60 [.int .i64] [.bool] x = f60 x := by
 rintro ⟨v0, ⟨⟩⟩
 kernel_rfl
theorem a4P : cL Tryz.prog 60 [.int .i64] [.bool] f60 := by
 exact aZ aJ a1A Tryz.func60 (c := c60) (by kernel_rfl) (aT := aC Tryz.f60) (lt := a3C) (aE aWN trivial) a1H
abbrev e60 : Ent := ⟨60, [.int .i64], [.bool], f60⟩
theorem a0Y : Ent.OK Tryz.prog e60 := a4P

/-! schisma/row.Check$1 -/
def f59 (x : aH [.int .i64]) : Option (aH [.bool]) := match x with
 | (v0, ()) =>
  aB (f60 (v0, ())) fun y1 =>
  bif y1.1 then
   some (false, ())
  else some (true, ())
noncomputable def c59 : Code := aS Tryz.f59
abbrev E59 : Env := bI [e60]
theorem a1K : aY Tryz.prog E59 := aX ⟨a0Y, trivial⟩
def a3S (id : Nat) : Option aR := none
theorem aU5 : aF c59 = [] := by kernel_rfl
theorem aZS : ∀ x, bQ Tryz.prog E59 Tryz.f59 (aC Tryz.f59) a3S c59 [.int .i64] [.bool] x = f59 x := by
 rintro ⟨v0, ⟨⟩⟩
 kernel_rfl
theorem a5K : cL Tryz.prog 59 [.int .i64] [.bool] f59 := by
 exact aZ aJ a1K Tryz.func59 (c := c59) (by kernel_rfl) (aT := aC Tryz.f59) (lt := a3S) (aE aU5 trivial) aZS
abbrev e59 : Ent := ⟨59, [.int .i64], [.bool], f59⟩
theorem a0G : Ent.OK Tryz.prog e59 := a5K

/-! slices.IndexFunc[schisma/api.Row,int] -/
abbrev tO : List (Nat × Kd) := [(0, .list TyE), (1, .fn 59), (7, .int .i64), (8, .int .i64)]
abbrev xJ : List (Ex × List (Nat × Kd)) := [(.ret, [(4, .int .i64)]), (.exit 0, [])]
def sB (x : Shape.den tO) : Option (Shape.den tO ⊕ aU xJ) := match x with
 | (v0, v1, v7, v8, ()) =>
  bif ltI v8 v7 then
   bif aQ v8 v0.length then aB (f59 ((v0.getD v8.toNat 0), ())) fun y2 =>
   bif y2.1 then
    some (.inr (.inl (v8, ())))
   else some (.inl (v0, (), v7, (aL .i64 (v8 + 1)), ())) else none
  else some (.inr (.inr ((()))))
def wJ (x : Shape.den tO) : Option (aU xJ) := bU sB (2 ^ 64) x
def ER (x : aH [.list TyE, .fn 59]) : Option (aH [.int .i64]) := match x with
 | (v0, v1, ()) =>
  aB (wJ (v0, (), (v0.length : Int), 0, ())) fun z3 =>
  lN z3 (fun a4 => some (a4.1, ())) fun b5 =>
  some ((-1), ())
noncomputable def Q5 : Code := aS Tryz.f73
abbrev YU : Env := bI [e59]
theorem UL : aY Tryz.prog YU := aX ⟨a0G, trivial⟩
noncomputable def BR : Code := fB Q5 0
def SE (id : Nat) : Option aR := bif Nat.beq id 2 then some ⟨tO, xJ, wJ⟩ else none
theorem Y5 : ∀ x, eU Tryz.prog YU 19 (aC Tryz.f73) SE BR tO xJ x = sB x := by
 rintro ⟨v0, v1, v7, v8, ⟨⟩⟩
 kernel_rfl
theorem aII : aF BR = [] := by kernel_rfl
theorem Z9 : aG BR = 2 := by kernel_rfl
theorem aB1 : cU Tryz.prog 19 BR ⟨tO, xJ, wJ⟩ := by
 exact cW UL.callee aJ.mixed _ (aE aII trivial) Y5
theorem aDV : aF Q5 = [BR] := by kernel_rfl
theorem aIY : ∀ x, bQ Tryz.prog YU Tryz.f73 (aC Tryz.f73) SE Q5 [.list TyE, .fn 59] [.int .i64] x = ER x := by
 rintro ⟨v0, v1, ⟨⟩⟩
 kernel_rfl
theorem aNK : cL Tryz.prog 73 [.list TyE, .fn 59] [.int .i64] ER := by
 exact aZ aJ UL Tryz.func73 (c := Q5) (by kernel_rfl) (aT := aC Tryz.f73) (lt := SE) (aE aDV ⟨cX Z9 rfl aB1, trivial⟩) aIY
abbrev aHM : Ent := ⟨73, [.list TyE, .fn 59], [.int .i64], ER⟩
theorem aIK : Ent.OK Tryz.prog aHM := aNK

/-! slices.ContainsFunc[schisma/api.Row,int] -/
def KJ (x : aH [.list TyE, .fn 59]) : Option (aH [.bool]) := match x with
 | (v0, v1, ()) =>
  aB (ER (v0, (), ())) fun y1 =>
  some (!(ltI y1.1 0), ())
noncomputable def XO : Code := aS Tryz.f55
abbrev aGS : Env := bI [aHM]
theorem aF6 : aY Tryz.prog aGS := aX ⟨aIK, trivial⟩
def aB4 (id : Nat) : Option aR := none
theorem aEG : aF XO = [] := by kernel_rfl
theorem aHS : ∀ x, bQ Tryz.prog aGS Tryz.f55 (aC Tryz.f55) aB4 XO [.list TyE, .fn 59] [.bool] x = KJ x := by
 rintro ⟨v0, v1, ⟨⟩⟩
 kernel_rfl
theorem aPH : cL Tryz.prog 55 [.list TyE, .fn 59] [.bool] KJ := by
 exact aZ aJ aF6 Tryz.func55 (c := XO) (by kernel_rfl) (aT := aC Tryz.f55) (lt := aB4) (aE aEG trivial) aHS
abbrev aHT : Ent := ⟨55, [.list TyE, .fn 59], [.bool], KJ⟩
theorem aG3 : Ent.OK Tryz.prog aHT := aPH

/-! schisma/row.Check -/
def f37 (x : aH [.list TyE]) : Option (aH [.int .i64]) := match x with
 | (v0, ()) =>
  bif ltI 64 (v0.length : Int) then
   some (4, ())
  else aB (KJ (v0, (), ())) fun y1 =>
  bif y1.1 then
   some (4, ())
  else some (0, ())
noncomputable def c37 : Code := aS Tryz.f37
abbrev E37 : Env := bI [aHT]
theorem aYH : aY Tryz.prog E37 := aX ⟨aG3, trivial⟩
def a38 (id : Nat) : Option aR := none
theorem aW9 : aF c37 = [] := by kernel_rfl
theorem a2D : ∀ x, bQ Tryz.prog E37 Tryz.f37 (aC Tryz.f37) a38 c37 [.list TyE] [.int .i64] x = f37 x := by
 rintro ⟨v0, ⟨⟩⟩
 kernel_rfl
theorem a4R : cL Tryz.prog 37 [.list TyE] [.int .i64] f37 := by
 exact aZ aJ aYH Tryz.func37 (c := c37) (by kernel_rfl) (aT := aC Tryz.f37) (lt := a38) (aE aW9 trivial) a2D
abbrev e37 : Ent := ⟨37, [.list TyE], [.int .i64], f37⟩
theorem aTR : Ent.OK Tryz.prog e37 := a4R

/-! slices.Equal[schisma/api.Row,int] -/
abbrev SZ : List (Nat × Kd) := [(0, .list TyE), (1, .list TyE), (12, .int .i64), (13, .int .i64)]
abbrev XF : List (Ex × List (Nat × Kd)) := [(.ret, [(4, .bool)]), (.exit 0, [])]
def KO (x : Shape.den SZ) : Option (Shape.den SZ ⊕ aU XF) := match x with
 | (v0, v1, v12, v13, ()) =>
  bif ltI v13 v12 then
   bif aQ v13 v0.length then bif aQ v13 v1.length then bif !(eqI (v0.getD v13.toNat 0) (v1.getD v13.toNat 0)) then
    some (.inr (.inl (false, ())))
   else some (.inl (v0, v1, v12, (aL .i64 (v13 + 1)), ())) else none else none
  else some (.inr (.inr ((()))))
def O9 (x : Shape.den SZ) : Option (aU XF) := bU KO (2 ^ 64) x
def f46 (x : aH [.list TyE, .list TyE]) : Option (aH [.bool]) := match x with
 | (v0, v1, ()) =>
  bif !(eqI (v0.length : Int) (v1.length : Int)) then
   some (false, ())
  else aB (O9 (v0, v1, (v0.length : Int), 0, ())) fun z1 =>
  lN z1 (fun a2 => some (a2.1, ())) fun b3 =>
  some (true, ())
noncomputable def c46 : Code := aS Tryz.f46
abbrev E46 : Env := bI []
theorem aSM : aY Tryz.prog E46 := aX trivial
noncomputable def aGH : Code := fB c46 0
def aZ6 (id : Nat) : Option aR := bif Nat.beq id 4 then some ⟨SZ, XF, O9⟩ else none
theorem aNM : ∀ x, eU Tryz.prog E46 26 (aC Tryz.f46) aZ6 aGH SZ XF x = KO x := by
 rintro ⟨v0, v1, v12, v13, ⟨⟩⟩
 kernel_rfl
theorem a0O : aF aGH = [] := by kernel_rfl
theorem aO9 : aG aGH = 4 := by kernel_rfl
theorem aRP : cU Tryz.prog 26 aGH ⟨SZ, XF, O9⟩ := by
 exact cW aSM.callee aJ.mixed _ (aE a0O trivial) aNM
theorem aWX : aF c46 = [aGH] := by kernel_rfl
theorem aYY : ∀ x, bQ Tryz.prog E46 Tryz.f46 (aC Tryz.f46) aZ6 c46 [.list TyE, .list TyE] [.bool] x = f46 x := by
 rintro ⟨v0, v1, ⟨⟩⟩
 kernel_rfl
theorem a4E : cL Tryz.prog 46 [.list TyE, .list TyE] [.bool] f46 := by
 exact aZ aJ aSM Tryz.func46 (c := c46) (by kernel_rfl) (aT := aC Tryz.f46) (lt := aZ6) (aE aWX ⟨cX aO9 rfl aRP, trivial⟩) aYY
abbrev e46 : Ent := ⟨46, [.list TyE, .list TyE], [.bool], f46⟩
theorem aJF : Ent.OK Tryz.prog e46 := a4E

/-! schisma/row.Equal -/
def f43 (x : aH [.list TyE, .list TyE]) : Option (aH [.bool]) := match x with
 | (v0, v1, ()) =>
  aB (f46 (v0, v1, ())) fun y1 =>
  some (y1.1, ())
noncomputable def c43 : Code := aS Tryz.f43
abbrev E43 : Env := bI [e46]
theorem a1U : aY Tryz.prog E43 := aX ⟨aJF, trivial⟩
def a3A (id : Nat) : Option aR := none
theorem aUK : aF c43 = [] := by kernel_rfl
theorem a15 : ∀ x, bQ Tryz.prog E43 Tryz.f43 (aC Tryz.f43) a3A c43 [.list TyE, .list TyE] [.bool] x = f43 x := by
 rintro ⟨v0, v1, ⟨⟩⟩
 kernel_rfl
theorem a4S : cL Tryz.prog 43 [.list TyE, .list TyE] [.bool] f43 := by
 exact aZ aJ a1U Tryz.func43 (c := c43) (by kernel_rfl) (aT := aC Tryz.f43) (lt := a3A) (aE aUK trivial) a15
abbrev e43 : Ent := ⟨43, [.list TyE, .list TyE], [.bool], f43⟩
theorem aZY : Ent.OK Tryz.prog e43 := a4S

/-! slices.Index[[]schisma/api.Key,schisma/api.Key] -/
abbrev S5 : List (Nat × Kd) := [(0, .list TyF), (3, .box 109 TyF), (7, .int .i64), (8, .int .i64)]
abbrev YX : List (Ex × List (Nat × Kd)) := [(.ret, [(4, .int .i64)]), (.exit 0, [])]
def aGM (x : Shape.den S5) : Option (Shape.den S5 ⊕ aU YX) := match x with
 | (v0, v3, v7, v8, ()) =>
  bif ltI v8 v7 then
   bif aQ v8 v0.length then bif (eqI v3.1 ((v0.getD v8.toNat (0, 0)).1) && (eqI v3.2 ((v0.getD v8.toNat (0, 0)).2) && true)) then
    some (.inr (.inl (v8, ())))
   else some (.inl (v0, (v3.1, v3.2), v7, (aL .i64 (v8 + 1)), ())) else none
  else some (.inr (.inr ((()))))
def XD (x : Shape.den S5) : Option (aU YX) := bU aGM (2 ^ 64) x
def f75 (x : aH [.list TyF, .agg TyF]) : Option (aH [.int .i64]) := match x with
 | (v0, v1, ()) =>
  aB (XD (v0, (v1.1, v1.2), (v0.length : Int), 0, ())) fun z1 =>
  lN z1 (fun a2 => some (a2.1, ())) fun b3 =>
  some ((-1), ())
noncomputable def c75 : Code := aS Tryz.f75
abbrev E75 : Env := bI []
theorem aTX : aY Tryz.prog E75 := aX trivial
noncomputable def aH8 : Code := fB c75 0
def a0C (id : Nat) : Option aR := bif Nat.beq id 2 then some ⟨S5, YX, XD⟩ else none
theorem aM8 : ∀ x, eU Tryz.prog E75 19 (aC Tryz.f75) a0C aH8 S5 YX x = aGM x := by
 rintro ⟨v0, v3, v7, v8, ⟨⟩⟩
 kernel_rfl
theorem a08 : aF aH8 = [] := by kernel_rfl
theorem aNQ : aG aH8 = 2 := by kernel_rfl
theorem aSW : cU Tryz.prog 19 aH8 ⟨S5, YX, XD⟩ := by
 exact cW aTX.callee aJ.mixed _ (aE a08 trivial) aM8
theorem aVQ : aF c75 = [aH8] := by kernel_rfl
theorem a0Q : ∀ x, bQ Tryz.prog E75 Tryz.f75 (aC Tryz.f75) a0C c75 [.list TyF, .agg TyF] [.int .i64] x = f75 x := by
 rintro ⟨v0, v1, ⟨⟩⟩
 kernel_rfl
theorem a4V : cL Tryz.prog 75 [.list TyF, .agg TyF] [.int .i64] f75 := by
 exact aZ aJ aTX Tryz.func75 (c := c75) (by kernel_rfl) (aT := aC Tryz.f75) (lt := a0C) (aE aVQ ⟨cX aNQ rfl aSW, trivial⟩) a0Q
abbrev e75 : Ent := ⟨75, [.list TyF, .agg TyF], [.int .i64], f75⟩
theorem aYM : Ent.OK Tryz.prog e75 := a4V

/-! slices.Contains[[]schisma/api.Key,schisma/api.Key] -/
def f63 (x : aH [.list TyF, .agg TyF]) : Option (aH [.bool]) := match x with
 | (v0, v1, ()) =>
  aB (f75 (v0, (v1.1, v1.2), ())) fun y1 =>
  some (!(ltI y1.1 0), ())
noncomputable def c63 : Code := aS Tryz.f63
abbrev E63 : Env := bI [e75]
theorem aX6 : aY Tryz.prog E63 := aX ⟨aYM, trivial⟩
def a2L (id : Nat) : Option aR := none
theorem aUP : aF c63 = [] := by kernel_rfl
theorem a0K : ∀ x, bQ Tryz.prog E63 Tryz.f63 (aC Tryz.f63) a2L c63 [.list TyF, .agg TyF] [.bool] x = f63 x := by
 rintro ⟨v0, v1, ⟨⟩⟩
 kernel_rfl
theorem a5G : cL Tryz.prog 63 [.list TyF, .agg TyF] [.bool] f63 := by
 exact aZ aJ aX6 Tryz.func63 (c := c63) (by kernel_rfl) (aT := aC Tryz.f63) (lt := a2L) (aE aUP trivial) a0K
abbrev e63 : Ent := ⟨63, [.list TyF, .agg TyF], [.bool], f63⟩
theorem aYT : Ent.OK Tryz.prog e63 := a5G

/-! schisma/isomorphy.neighbours -/
def f61 (x : aH [.int .i64]) : Option (aH [.list TyF]) := match x with
 | (v0, ()) =>
  bif eqI v0 2 then
   bif Nat.ble [(1, (-1)), ((-1), 1)].length 1048576 then bif Nat.ble [(1, 0), ((-1), 0), (0, 1), (0, (-1))].length 1048576 then bif Nat.blt 4 ([(1, 0), ((-1), 0), (0, 1), (0, (-1))].length + [(1, (-1)), ((-1), 1)].length) then some (([(1, 0), ((-1), 0), (0, 1), (0, (-1))] ++ [(1, (-1)), ((-1), 1)]), ()) else none else none else none
  else some ([(1, 0), ((-1), 0), (0, 1), (0, (-1))], ())
noncomputable def c61 : Code := aS Tryz.f61
abbrev E61 : Env := bI []
theorem aYK : aY Tryz.prog E61 := aX trivial
def a3E (id : Nat) : Option aR := none
theorem aUW : aF c61 = [] := by kernel_rfl
theorem aZ8 : ∀ x, bQ Tryz.prog E61 Tryz.f61 (aC Tryz.f61) a3E c61 [.int .i64] [.list TyF] x = f61 x := by
 rintro ⟨v0, ⟨⟩⟩
 kernel_rfl
theorem a5S : cL Tryz.prog 61 [.int .i64] [.list TyF] f61 := by
 exact aZ aJ aYK Tryz.func61 (c := c61) (by kernel_rfl) (aT := aC Tryz.f61) (lt := a3E) (aE aUW trivial) aZ8
abbrev e61 : Ent := ⟨61, [.int .i64], [.list TyF], f61⟩
theorem aZZ : Ent.OK Tryz.prog e61 := a5S

/-! schisma/isomorphy.Check -/
abbrev TE : List (Nat × Kd) := [(1, .box 25 TyA), (20, .agg (.prod TyD (.prod TyD TyD))), (21, .int .i64)]
abbrev YZ : List (Ex × List (Nat × Kd)) := [(.ret, [(2, .int .i64)]), (.exit 0, [])]
def uG (x : Shape.den TE) : Option (Shape.den TE ⊕ aU YZ) := match x with
 | (v1, v20, v21, ()) =>
  bif ltI v21 3 then
   bif eqI v21 0 then
    aB (f37 (v20.1, ())) fun y4 =>
    bif !(eqI y4.1 0) then
     some (.inr (.inl (y4.1, ())))
    else bif !(eqI (v20.1.length : Int) (v1.2.1.length : Int)) then
     some (.inr (.inl (5, ())))
    else some (.inl (v1, (v20.1, (v20.2.1, v20.2.2)), (aL .i64 (v21 + 1)), ()))
   else bif eqI v21 1 then
    aB (f37 (v20.2.1, ())) fun y5 =>
    bif !(eqI y5.1 0) then
     some (.inr (.inl (y5.1, ())))
    else bif !(eqI (v20.2.1.length : Int) (v1.2.1.length : Int)) then
     some (.inr (.inl (5, ())))
    else some (.inl (v1, (v20.1, (v20.2.1, v20.2.2)), (aL .i64 (v21 + 1)), ()))
   else bif eqI v21 2 then aB (f37 (v20.2.2, ())) fun y6 =>
   bif !(eqI y6.1 0) then
    some (.inr (.inl (y6.1, ())))
   else bif !(eqI (v20.2.2.length : Int) (v1.2.1.length : Int)) then
    some (.inr (.inl (5, ())))
   else some (.inl (v1, (v20.1, (v20.2.1, v20.2.2)), (aL .i64 (v21 + 1)), ())) else none
  else some (.inr (.inr ((()))))
def FE (x : Shape.den TE) : Option (aU YZ) := bU uG (2 ^ 64) x
def f24 (x : aH [.agg TyA]) : Option (aH [.int .i64]) := match x with
 | (v0, ()) =>
  bif !(eqI v0.1 1) then
   bif !(eqI v0.1 2) then
    some (12, ())
   else aB (FE (v0, (v0.2.1, (v0.2.2.1, v0.2.2.2)), 0, ())) fun z7 =>
   lN z7 (fun a8 => some (a8.1, ())) fun b9 =>
   some (0, ())
  else aB (FE (v0, (v0.2.1, (v0.2.2.1, v0.2.2.2)), 0, ())) fun z10 =>
  lN z10 (fun a11 => some (a11.1, ())) fun b12 =>
  some (0, ())
noncomputable def c24 : Code := aS Tryz.f24
abbrev E24 : Env := bI [e37]
theorem aSB : aY Tryz.prog E24 := aX ⟨aTR, trivial⟩
noncomputable def aF5 : Code := fB c24 0
def aZL (id : Nat) : Option aR := bif Nat.beq id 4 then some ⟨TE, YZ, FE⟩ else none
theorem aN7 : ∀ x, eU Tryz.prog E24 36 (aC Tryz.f24) aZL aF5 TE YZ x = uG x := by
 rintro ⟨v1, v20, v21, ⟨⟩⟩
 kernel_rfl
theorem aYZ : aF aF5 = [] := by kernel_rfl
theorem aO4 : aG aF5 = 4 := by kernel_rfl
theorem aT2 : cU Tryz.prog 36 aF5 ⟨TE, YZ, FE⟩ := by
 exact cW aSB.callee aJ.mixed _ (aE aYZ trivial) aN7
theorem aV6 : aF c24 = [aF5] := by kernel_rfl
theorem a1Y : ∀ x, bQ Tryz.prog E24 Tryz.f24 (aC Tryz.f24) aZL c24 [.agg TyA] [.int .i64] x = f24 x := by
 rintro ⟨v0, ⟨⟩⟩
 kernel_rfl
theorem a45 : cL Tryz.prog 24 [.agg TyA] [.int .i64] f24 := by
 exact aZ aJ aSB Tryz.func24 (c := c24) (by kernel_rfl) (aT := aC Tryz.f24) (lt := aZL) (aE aV6 ⟨cX aO4 rfl aT2, trivial⟩) a1Y
abbrev e24 : Ent := ⟨24, [.agg TyA], [.int .i64], f24⟩
theorem aAM : Ent.OK Tryz.prog e24 := a45

/-! schisma/isomorphy.Equal -/
def f25 (x : aH [.agg TyA, .agg TyA]) : Option (aH [.bool]) := match x with
 | (v0, v1, ()) =>
  bif eqI v0.1 v1.1 then
   aB (f46 (v0.2.1, v1.2.1, ())) fun y1 =>
   bif y1.1 then
    aB (f46 (v0.2.2.1, v1.2.2.1, ())) fun y2 =>
    bif y2.1 then
     aB (f46 (v0.2.2.2, v1.2.2.2, ())) fun y3 =>
     some (y3.1, ())
    else some (false, ())
   else some (false, ())
  else some (false, ())
noncomputable def c25 : Code := aS Tryz.f25
abbrev E25 : Env := bI [e46]
theorem aZD : aY Tryz.prog E25 := aX ⟨aJF, trivial⟩
def a29 (id : Nat) : Option aR := none
theorem aVV : aF c25 = [] := by kernel_rfl
theorem a04 : ∀ x, bQ Tryz.prog E25 Tryz.f25 (aC Tryz.f25) a29 c25 [.agg TyA, .agg TyA] [.bool] x = f25 x := by
 rintro ⟨v0, v1, ⟨⟩⟩
 kernel_rfl
theorem a5B : cL Tryz.prog 25 [.agg TyA, .agg TyA] [.bool] f25 := by
 exact aZ aJ aZD Tryz.func25 (c := c25) (by kernel_rfl) (aT := aC Tryz.f25) (lt := a29) (aE aVV trivial) a04
abbrev e25 : Ent := ⟨25, [.agg TyA, .agg TyA], [.bool], f25⟩
theorem aZ9 : Ent.OK Tryz.prog e25 := a5B

/-! schisma/isomorphy.combine -/
abbrev TR : List (Nat × Kd) := [(0, .list TyE), (1, .list TyE), (2, .int .i64), (3, .int .i64), (9, .own 3 TyE), (13, .int .i64), (14, .int .i64)]
abbrev YC : List (Ex × List (Nat × Kd)) := [(.exit 0, [(9, .own 3 TyE)])]
def KG (x : Shape.den TR) : Option (Shape.den TR ⊕ aU YC) := match x with
 | (v0, v1, v2, v3, v9, v13, v14, ()) =>
  bif ltI v14 v13 then
   bif aQ v14 v0.length then bif aQ v14 v1.length then bif Nat.ble [(aL .i64 ((aL .i64 (v2 * (v0.getD v14.toNat 0))) + (aL .i64 (v3 * (v1.getD v14.toNat 0)))))].length 1048576 then bif Nat.ble v9.length 1048576 then some (.inl (v0, v1, v2, v3, (v9 ++ [(aL .i64 ((aL .i64 (v2 * (v0.getD v14.toNat 0))) + (aL .i64 (v3 * (v1.getD v14.toNat 0)))))]), v13, (aL .i64 (v14 + 1)), ())) else none else none else none else none
  else some (.inr ((v9, ())))
def Q4 (x : Shape.den TR) : Option (aU YC) := bU KG (2 ^ 64) x
def f65 (x : aH [.list TyE, .list TyE, .int .i64, .int .i64]) : Option (aH [.list TyE]) := match x with
 | (v0, v1, v2, v3, ()) =>
  aB (Q4 (v0, v1, v2, v3, [], (v0.length : Int), 0, ())) fun z1 =>
  some (z1.1, ())
noncomputable def c65 : Code := aS Tryz.f65
abbrev E65 : Env := bI []
theorem aSX : aY Tryz.prog E65 := aX trivial
noncomputable def aGE : Code := fB c65 0
def aXU (id : Nat) : Option aR := bif Nat.beq id 3 then some ⟨TR, YC, Q4⟩ else none
theorem aOM : ∀ x, eU Tryz.prog E65 35 (aC Tryz.f65) aXU aGE TR YC x = KG x := by
 rintro ⟨v0, v1, v2, v3, v9, v13, v14, ⟨⟩⟩
 kernel_rfl
theorem aZW : aF aGE = [] := by kernel_rfl
theorem aM1 : aG aGE = 3 := by kernel_rfl
theorem aTC : cU Tryz.prog 35 aGE ⟨TR, YC, Q4⟩ := by
 exact cW aSX.callee aJ.mixed _ (aE aZW trivial) aOM
theorem aV2 : aF c65 = [aGE] := by kernel_rfl
theorem aYU : ∀ x, bQ Tryz.prog E65 Tryz.f65 (aC Tryz.f65) aXU c65 [.list TyE, .list TyE, .int .i64, .int .i64] [.list TyE] x = f65 x := by
 rintro ⟨v0, v1, v2, v3, ⟨⟩⟩
 kernel_rfl
theorem a4C : cL Tryz.prog 65 [.list TyE, .list TyE, .int .i64, .int .i64] [.list TyE] f65 := by
 exact aZ aJ aSX Tryz.func65 (c := c65) (by kernel_rfl) (aT := aC Tryz.f65) (lt := aXU) (aE aV2 ⟨cX aM1 rfl aTC, trivial⟩) aYU
abbrev e65 : Ent := ⟨65, [.list TyE, .list TyE, .int .i64, .int .i64], [.list TyE], f65⟩
theorem aR2 : Ent.OK Tryz.prog e65 := a4C

/-! schisma/isomorphy.QV -/
def f40 (x : aH [.agg TyA, .agg TyB]) : Option (aH [.agg TyA]) := match x with
 | (v0, v1, ()) =>
  aB (aBT (v0.2.1, ())) fun y1 =>
  aB (f65 (v0.2.2.1, v0.2.2.2, v1.1, v1.2.2.1, ())) fun y2 =>
  aB (f65 (v0.2.2.1, v0.2.2.2, v1.2.1, v1.2.2.2, ())) fun y3 =>
  some ((v0.1, (y1.1, (y2.1, y3.1))), ())
noncomputable def c40 : Code := aS Tryz.f40
abbrev E40 : Env := bI [aYI, e65]
theorem aY3 : aY Tryz.prog E40 := aX ⟨aMD, aR2, trivial⟩
def a3H (id : Nat) : Option aR := none
theorem aUL : aF c40 = [] := by kernel_rfl
theorem a07 : ∀ x, bQ Tryz.prog E40 Tryz.f40 (aC Tryz.f40) a3H c40 [.agg TyA, .agg TyB] [.agg TyA] x = f40 x := by
 rintro ⟨v0, v1, ⟨⟩⟩
 kernel_rfl
theorem a43 : cL Tryz.prog 40 [.agg TyA, .agg TyB] [.agg TyA] f40 := by
 exact aZ aJ aY3 Tryz.func40 (c := c40) (by kernel_rfl) (aT := aC Tryz.f40) (lt := a3H) (aE aUL trivial) a07
abbrev e40 : Ent := ⟨40, [.agg TyA, .agg TyB], [.agg TyA], f40⟩
theorem aEW : Ent.OK Tryz.prog e40 := a43

/-! schisma/isomorphy.bounded -/
abbrev TO : List (Nat × Kd) := [(1, .box 25 TyA), (2, .box 25 TyA), (12, .agg (.prod TyD (.prod TyD TyD))), (13, .int .i64)]
abbrev YP : List (Ex × List (Nat × Kd)) := [(.ret, [(2, .box 25 TyA), (3, .int .i64)]), (.exit 0, [(1, .box 25 TyA), (2, .box 25 TyA)])]
def u6 (x : Shape.den TO) : Option (Shape.den TO ⊕ aU YP) := match x with
 | (v1, v2, v12, v13, ()) =>
  bif ltI v13 3 then
   bif eqI v13 0 then
    aB (f37 (v12.1, ())) fun y4 =>
    bif !(eqI y4.1 0) then
     some (.inr (.inl ((0, ([], ([], []))), 4, ())))
    else some (.inl (v1, v2, (v12.1, (v12.2.1, v12.2.2)), (aL .i64 (v13 + 1)), ()))
   else bif eqI v13 1 then
    aB (f37 (v12.2.1, ())) fun y5 =>
    bif !(eqI y5.1 0) then
     some (.inr (.inl ((0, ([], ([], []))), 4, ())))
    else some (.inl (v1, v2, (v12.1, (v12.2.1, v12.2.2)), (aL .i64 (v13 + 1)), ()))
   else bif eqI v13 2 then aB (f37 (v12.2.2, ())) fun y6 =>
   bif !(eqI y6.1 0) then
    some (.inr (.inl ((0, ([], ([], []))), 4, ())))
   else some (.inl (v1, v2, (v12.1, (v12.2.1, v12.2.2)), (aL .i64 (v13 + 1)), ())) else none
  else some (.inr (.inr ((v1, v2, ()))))
def FX (x : Shape.den TO) : Option (aU YP) := bU u6 (2 ^ 64) x
def f39 (x : aH [.agg TyA]) : Option (aH [.agg TyA, .int .i64]) := match x with
 | (v0, ()) =>
  aB (FX (v0, (0, ([], ([], []))), (v0.2.1, (v0.2.2.1, v0.2.2.2)), 0, ())) fun z7 =>
  lN z7 (fun a8 => some (a8.1, a8.2.1, ())) fun b9 =>
  some (b9.1, 0, ())
noncomputable def c39 : Code := aS Tryz.f39
abbrev E39 : Env := bI [e37]
theorem aQD : aY Tryz.prog E39 := aX ⟨aTR, trivial⟩
noncomputable def aH5 : Code := fB c39 0
def a1I (id : Nat) : Option aR := bif Nat.beq id 2 then some ⟨TO, YP, FX⟩ else none
theorem aN3 : ∀ x, eU Tryz.prog E39 22 (aC Tryz.f39) a1I aH5 TO YP x = u6 x := by
 rintro ⟨v1, v2, v12, v13, ⟨⟩⟩
 kernel_rfl
theorem aZJ : aF aH5 = [] := by kernel_rfl
theorem aPK : aG aH5 = 2 := by kernel_rfl
theorem aTZ : cU Tryz.prog 22 aH5 ⟨TO, YP, FX⟩ := by
 exact cW aQD.callee aJ.mixed _ (aE aZJ trivial) aN3
theorem aV0 : aF c39 = [aH5] := by kernel_rfl
theorem aYX : ∀ x, bQ Tryz.prog E39 Tryz.f39 (aC Tryz.f39) a1I c39 [.agg TyA] [.agg TyA, .int .i64] x = f39 x := by
 rintro ⟨v0, ⟨⟩⟩
 kernel_rfl
theorem a5F : cL Tryz.prog 39 [.agg TyA] [.agg TyA, .int .i64] f39 := by
 exact aZ aJ aQD Tryz.func39 (c := c39) (by kernel_rfl) (aT := aC Tryz.f39) (lt := a1I) (aE aV0 ⟨cX aPK rfl aTZ, trivial⟩) aYX
abbrev e39 : Ent := ⟨39, [.agg TyA], [.agg TyA, .int .i64], f39⟩
theorem aJH : Ent.OK Tryz.prog e39 := a5F

/-! schisma/isomorphy.first -/
def f48 (x : aH [.agg TyA, .agg TyA]) : Option (aH [.int .i64]) := match x with
 | (v0, v1, ()) =>
  aB (f35 (v0.2.2.1, v1.2.2.1, ())) fun y1 =>
  bif !(eqI y1.1 0) then
   some (y1.1, ())
  else aB (f35 (v0.2.2.2, v1.2.2.2, ())) fun y2 =>
  some (y2.1, ())
noncomputable def c48 : Code := aS Tryz.f48
abbrev E48 : Env := bI [e35]
theorem a1F : aY Tryz.prog E48 := aX ⟨aTM, trivial⟩
def a2N (id : Nat) : Option aR := none
theorem aW8 : aF c48 = [] := by kernel_rfl
theorem aZ4 : ∀ x, bQ Tryz.prog E48 Tryz.f48 (aC Tryz.f48) a2N c48 [.agg TyA, .agg TyA] [.int .i64] x = f48 x := by
 rintro ⟨v0, v1, ⟨⟩⟩
 kernel_rfl
theorem a5M : cL Tryz.prog 48 [.agg TyA, .agg TyA] [.int .i64] f48 := by
 exact aZ aJ a1F Tryz.func48 (c := c48) (by kernel_rfl) (aT := aC Tryz.f48) (lt := a2N) (aE aW8 trivial) aZ4
abbrev e48 : Ent := ⟨48, [.agg TyA, .agg TyA], [.int .i64], f48⟩
theorem aK0 : Ent.OK Tryz.prog e48 := a5M

/-! schisma/isomorphy.Compose -/
def f23 (x : aH [.agg TyB, .agg TyB]) : Option (aH [.agg TyB]) := match x with
 | (v0, v1, ()) =>
  some (((aL .i64 ((aL .i64 (v0.1 * v1.1)) + (aL .i64 (v0.2.1 * v1.2.2.1)))), ((aL .i64 ((aL .i64 (v0.1 * v1.2.1)) + (aL .i64 (v0.2.1 * v1.2.2.2)))), ((aL .i64 ((aL .i64 (v0.2.2.1 * v1.1)) + (aL .i64 (v0.2.2.2 * v1.2.2.1)))), (aL .i64 ((aL .i64 (v0.2.2.1 * v1.2.1)) + (aL .i64 (v0.2.2.2 * v1.2.2.2))))))), ())
/-! schisma/schismalaw46.neighbours -/
def f41 (x : aH [.int .i64]) : Option (aH [.list TyF]) := match x with
 | (v0, ()) =>
  bif eqI v0 2 then
   bif Nat.ble [(1, (-1)), ((-1), 1)].length 1048576 then bif Nat.ble [(1, 0), ((-1), 0), (0, 1), (0, (-1))].length 1048576 then bif Nat.blt 4 ([(1, 0), ((-1), 0), (0, 1), (0, (-1))].length + [(1, (-1)), ((-1), 1)].length) then some (([(1, 0), ((-1), 0), (0, 1), (0, (-1))] ++ [(1, (-1)), ((-1), 1)]), ()) else none else none else none
  else some ([(1, 0), ((-1), 0), (0, 1), (0, (-1))], ())
noncomputable def c41 : Code := aS Tryz.f41
abbrev E41 : Env := bI []
theorem aXX : aY Tryz.prog E41 := aX trivial
def a3X (id : Nat) : Option aR := none
theorem aVE : aF c41 = [] := by kernel_rfl
theorem aYR : ∀ x, bQ Tryz.prog E41 Tryz.f41 (aC Tryz.f41) a3X c41 [.int .i64] [.list TyF] x = f41 x := by
 rintro ⟨v0, ⟨⟩⟩
 kernel_rfl
theorem a4D : cL Tryz.prog 41 [.int .i64] [.list TyF] f41 := by
 exact aZ aJ aXX Tryz.func41 (c := c41) (by kernel_rfl) (aT := aC Tryz.f41) (lt := a3X) (aE aVE trivial) aYR
abbrev e41 : Ent := ⟨41, [.int .i64], [.list TyF], f41⟩
theorem aZ7 : Ent.OK Tryz.prog e41 := a4D

/-! schisma/schismalaw46.symmetries -/
abbrev SV : List (Nat × Kd) := [(3, .own 27 TyB), (4, .list TyF), (5, .int .i64), (6, .box 27 TyB), (7, .own 4 .bool), (8, .int .i64), (9, .int .i64), (10, .int .i64), (11, .int .i64)]
abbrev YI : List (Ex × List (Nat × Kd)) := [(.exit 4, [(3, .own 27 TyB), (4, .list TyF), (5, .int .i64), (6, .box 27 TyB), (7, .own 4 .bool), (8, .int .i64)])]
def aI1 (x : Shape.den SV) : Option (Shape.den SV ⊕ aU YI) := match x with
 | (v3, v4, v5, v6, v7, v8, v9, v10, v11, ()) =>
  bif ltI v11 (v4.length : Int) then
   bif aQ v11 v4.length then bif (eqI ((v4.getD v11.toNat (0, 0)).1) v9 && (eqI ((v4.getD v11.toNat (0, 0)).2) v10 && true)) then
    bif aQ v11 v7.length then bif Nat.blt v11.toNat v7.length then some (.inl (v3, v4, v5, v6, (v7.set v11.toNat true), v8, v9, v10, (aL .i64 (v11 + 1)), ())) else none else none
   else some (.inl (v3, v4, v5, v6, v7, v8, v9, v10, (aL .i64 (v11 + 1)), ())) else none
  else some (.inr ((v3, v4, v5, v6, v7, v8, ())))
def Z4 (x : Shape.den SV) : Option (aU YI) := bU aI1 (2 ^ 64) x
abbrev TY : List (Nat × Kd) := [(3, .own 27 TyB), (4, .list TyF), (5, .int .i64), (6, .box 27 TyB), (7, .own 4 .bool), (8, .int .i64)]
abbrev XS : List (Ex × List (Nat × Kd)) := [(.exit 2, [(3, .own 27 TyB), (4, .list TyF), (5, .int .i64), (6, .box 27 TyB), (7, .own 4 .bool)])]
def aF3 (x : Shape.den TY) : Option (Shape.den TY ⊕ aU XS) := match x with
 | (v3, v4, v5, v6, v7, v8, ()) =>
  bif ltI v8 (v4.length : Int) then
   bif aQ v8 v4.length then bif aQ v8 v4.length then bif aQ v8 v4.length then bif aQ v8 v4.length then aB (Z4 (v3, v4, v5, v6, v7, v8, (aL .i64 ((aL .i64 (v6.1 * ((v4.getD v8.toNat (0, 0)).1))) + (aL .i64 (v6.2.1 * ((v4.getD v8.toNat (0, 0)).2))))), (aL .i64 ((aL .i64 (v6.2.2.1 * ((v4.getD v8.toNat (0, 0)).1))) + (aL .i64 (v6.2.2.2 * ((v4.getD v8.toNat (0, 0)).2))))), 0, ())) fun z3 =>
   some (.inl (z3.1, z3.2.1, z3.2.2.1, z3.2.2.2.1, z3.2.2.2.2.1, (aL .i64 (z3.2.2.2.2.2.1 + 1)), ())) else none else none else none else none
  else some (.inr ((v3, v4, v5, v6, v7, ())))
def X7 (x : Shape.den TY) : Option (aU XS) := bU aF3 (2 ^ 64) x
abbrev R7 : List (Nat × Kd) := [(3, .own 27 TyB), (4, .list TyF), (5, .int .i64), (6, .box 27 TyB), (7, .own 4 .bool), (12, .bool), (13, .int .i64)]
abbrev YO : List (Ex × List (Nat × Kd)) := [(.exit 6, [(3, .own 27 TyB), (4, .list TyF), (5, .int .i64), (6, .box 27 TyB), (12, .bool)])]
def aGL (x : Shape.den R7) : Option (Shape.den R7 ⊕ aU YO) := match x with
 | (v3, v4, v5, v6, v7, v12, v13, ()) =>
  bif ltI v13 (v4.length : Int) then
   bif v12 then
    bif aQ v13 v7.length then bif Nat.blt v13.toNat v7.length then some (.inl (v3, v4, v5, v6, v7, (v7.getD v13.toNat false), (aL .i64 (v13 + 1)), ())) else none else none
   else some (.inl (v3, v4, v5, v6, v7, false, (aL .i64 (v13 + 1)), ()))
  else some (.inr ((v3, v4, v5, v6, v12, ())))
def Z5 (x : Shape.den R7) : Option (aU YO) := bU aGL (2 ^ 64) x
abbrev SL : List (Nat × Kd) := [(3, .own 27 TyB), (4, .list TyF), (5, .int .i64)]
abbrev YW : List (Ex × List (Nat × Kd)) := [(.exit 0, [(3, .own 27 TyB)])]
def aH0 (x : Shape.den SL) : Option (Shape.den SL ⊕ aU YW) := match x with
 | (v3, v4, v5, ()) =>
  bif ltI v5 81 then
   bif !(ltI (v4.length : Int) 0) then bif !(ltI (v4.length : Int) (v4.length : Int)) then bif !(ltI 1048576 (v4.length : Int)) then aB (X7 (v3, v4, v5, ((aL .i64 ((aL .i64 (v5.tdiv 27)) - 1)), ((aL .i64 (((aL .i64 (v5.tdiv 9)).tmod 3) - 1)), ((aL .i64 (((aL .i64 (v5.tdiv 3)).tmod 3) - 1)), (aL .i64 ((v5.tmod 3) - 1))))), (List.replicate ((v4.length : Int).toNat) false), 0, ())) fun z6 =>
   aB (Z5 (z6.1, z6.2.1, z6.2.2.1, z6.2.2.2.1, z6.2.2.2.2.1, true, 0, ())) fun z7 =>
   bif z7.2.2.2.2.1 then
    bif Nat.ble [z7.2.2.2.1].length 1048576 then bif Nat.ble z7.1.length 1048576 then some (.inl ((z7.1 ++ [z7.2.2.2.1]), z7.2.1, (aL .i64 (z7.2.2.1 + 1)), ())) else none else none
   else some (.inl (z7.1, z7.2.1, (aL .i64 (z7.2.2.1 + 1)), ())) else none else none else none
  else some (.inr ((v3, ())))
def W4 (x : Shape.den SL) : Option (aU YW) := bU aH0 (2 ^ 64) x
def f16 (x : aH [.int .i64]) : Option (aH [.list TyB]) := match x with
 | (v0, ()) =>
  aB (f41 (v0, ())) fun y1 =>
  aB (W4 ([], y1.1, 0, ())) fun z8 =>
  some (z8.1, ())
noncomputable def c16 : Code := aS Tryz.f16
abbrev E16 : Env := bI [e41]
theorem YR : aY Tryz.prog E16 := aX ⟨aZ7, trivial⟩
noncomputable def XI : Code := fB c16 0
noncomputable def aCQ : Code := fB XI 0
noncomputable def aIQ : Code := fB aCQ 0
noncomputable def aIL : Code := fB XI 1
def aPG (id : Nat) : Option aR := bif Nat.beq id 13 then some ⟨SV, YI, Z4⟩ else bif Nat.beq id 9 then some ⟨TY, XS, X7⟩ else bif Nat.beq id 19 then some ⟨R7, YO, Z5⟩ else bif Nat.beq id 4 then some ⟨SL, YW, W4⟩ else none
theorem aOU : ∀ x, eU Tryz.prog E16 114 (aC Tryz.f16) aPG aIQ SV YI x = aI1 x := by
 rintro ⟨v3, v4, v5, v6, v7, v8, v9, v10, v11, ⟨⟩⟩
 kernel_rfl
theorem aYN : aF aIQ = [] := by kernel_rfl
theorem aNZ : aG aIQ = 13 := by kernel_rfl
theorem aR1 : cU Tryz.prog 114 aIQ ⟨SV, YI, Z4⟩ := by
 exact cW YR.callee aJ.mixed _ (aE aYN trivial) aOU
theorem aPM : ∀ x, eU Tryz.prog E16 114 (aC Tryz.f16) aPG aCQ TY XS x = aF3 x := by
 rintro ⟨v3, v4, v5, v6, v7, v8, ⟨⟩⟩
 kernel_rfl
theorem a1L : aF aCQ = [aIQ] := by kernel_rfl
theorem aNP : aG aCQ = 9 := by kernel_rfl
theorem aQS : cU Tryz.prog 114 aCQ ⟨TY, XS, X7⟩ := by
 exact cW YR.callee aJ.mixed _ (aE a1L ⟨cX aNZ rfl aR1, trivial⟩) aPM
theorem aPC : ∀ x, eU Tryz.prog E16 114 (aC Tryz.f16) aPG aIL R7 YO x = aGL x := by
 rintro ⟨v3, v4, v5, v6, v7, v12, v13, ⟨⟩⟩
 kernel_rfl
theorem a02 : aF aIL = [] := by kernel_rfl
theorem aNG : aG aIL = 19 := by kernel_rfl
theorem aTV : cU Tryz.prog 114 aIL ⟨R7, YO, Z5⟩ := by
 exact cW YR.callee aJ.mixed _ (aE a02 trivial) aPC
theorem aND : ∀ x, eU Tryz.prog E16 114 (aC Tryz.f16) aPG XI SL YW x = aH0 x := by
 rintro ⟨v3, v4, v5, ⟨⟩⟩
 kernel_rfl
theorem aZU : aF XI = [aCQ, aIL] := by kernel_rfl
theorem aPE : aG XI = 4 := by kernel_rfl
theorem aT6 : cU Tryz.prog 114 XI ⟨SL, YW, W4⟩ := by
 exact cW YR.callee aJ.mixed _ (aE aZU ⟨cX aNP rfl aQS, cX aNG rfl aTV, trivial⟩) aND
theorem aU3 : aF c16 = [XI] := by kernel_rfl
theorem aZ5 : ∀ x, bQ Tryz.prog E16 Tryz.f16 (aC Tryz.f16) aPG c16 [.int .i64] [.list TyB] x = f16 x := by
 rintro ⟨v0, ⟨⟩⟩
 kernel_rfl
theorem a5L : cL Tryz.prog 16 [.int .i64] [.list TyB] f16 := by
 exact aZ aJ YR Tryz.func16 (c := c16) (by kernel_rfl) (aT := aC Tryz.f16) (lt := aPG) (aE aU3 ⟨cX aPE rfl aT6, trivial⟩) aZ5
abbrev e16 : Ent := ⟨16, [.int .i64], [.list TyB], f16⟩
theorem aSU : Ent.OK Tryz.prog e16 := a5L

/-! schisma/schismaref06.Fits -/
def f21 (x : aH [.int .i64]) : Option (aH [.bool]) := match x with
 | (v0, ()) =>
  bif !(ltI 1000000000 v0) then
   some (!(ltI v0 (-1000000000)), ())
  else some (false, ())
noncomputable def c21 : Code := aS Tryz.f21
abbrev E21 : Env := bI []
theorem a2E : aY Tryz.prog E21 := aX trivial
def a3O (id : Nat) : Option aR := none
theorem aWU : aF c21 = [] := by kernel_rfl
theorem aX5 : ∀ x, bQ Tryz.prog E21 Tryz.f21 (aC Tryz.f21) a3O c21 [.int .i64] [.bool] x = f21 x := by
 rintro ⟨v0, ⟨⟩⟩
 kernel_rfl
theorem a4H : cL Tryz.prog 21 [.int .i64] [.bool] f21 := by
 exact aZ aJ a2E Tryz.func21 (c := c21) (by kernel_rfl) (aT := aC Tryz.f21) (lt := a3O) (aE aWU trivial) aX5
abbrev e21 : Ent := ⟨21, [.int .i64], [.bool], f21⟩
theorem aZQ : Ent.OK Tryz.prog e21 := a4H

/-! schisma/schismalaw46.mix -/
abbrev T4 : List (Nat × Kd) := [(0, .int .i64), (1, .list TyE), (2, .int .i64), (3, .list TyE), (10, .own 3 TyE), (11, .bool), (12, .int .i64)]
abbrev Z3 : List (Ex × List (Nat × Kd)) := [(.exit 0, [(10, .own 3 TyE), (11, .bool)])]
def JJ (x : Shape.den T4) : Option (Shape.den T4 ⊕ aU Z3) := match x with
 | (v0, v1, v2, v3, v10, v11, v12, ()) =>
  bif ltI v12 (v1.length : Int) then
   bif aQ v12 v1.length then bif aQ v12 v3.length then bif v11 then
    aB (f21 ((aL .i64 ((aL .i64 (v0 * (v1.getD v12.toNat 0))) + (aL .i64 (v2 * (v3.getD v12.toNat 0))))), ())) fun y2 =>
    bif Nat.ble [(aL .i64 ((aL .i64 (v0 * (v1.getD v12.toNat 0))) + (aL .i64 (v2 * (v3.getD v12.toNat 0)))))].length 1048576 then bif Nat.ble v10.length 1048576 then some (.inl (v0, v1, v2, v3, (v10 ++ [(aL .i64 ((aL .i64 (v0 * (v1.getD v12.toNat 0))) + (aL .i64 (v2 * (v3.getD v12.toNat 0)))))]), y2.1, (aL .i64 (v12 + 1)), ())) else none else none
   else bif Nat.ble [(aL .i64 ((aL .i64 (v0 * (v1.getD v12.toNat 0))) + (aL .i64 (v2 * (v3.getD v12.toNat 0)))))].length 1048576 then bif Nat.ble v10.length 1048576 then some (.inl (v0, v1, v2, v3, (v10 ++ [(aL .i64 ((aL .i64 (v0 * (v1.getD v12.toNat 0))) + (aL .i64 (v2 * (v3.getD v12.toNat 0)))))]), false, (aL .i64 (v12 + 1)), ())) else none else none else none else none
  else some (.inr ((v10, v11, ())))
def Q6 (x : Shape.den T4) : Option (aU Z3) := bU JJ (2 ^ 64) x
def f42 (x : aH [.int .i64, .list TyE, .int .i64, .list TyE]) : Option (aH [.list TyE, .bool]) := match x with
 | (v0, v1, v2, v3, ()) =>
  aB (Q6 (v0, v1, v2, v3, [], true, 0, ())) fun z3 =>
  some (z3.1, z3.2.1, ())
noncomputable def c42 : Code := aS Tryz.f42
abbrev E42 : Env := bI [e21]
theorem aS7 : aY Tryz.prog E42 := aX ⟨aZQ, trivial⟩
noncomputable def aG2 : Code := fB c42 0
def aYB (id : Nat) : Option aR := bif Nat.beq id 4 then some ⟨T4, Z3, Q6⟩ else none
theorem aNL : ∀ x, eU Tryz.prog E42 45 (aC Tryz.f42) aYB aG2 T4 Z3 x = JJ x := by
 rintro ⟨v0, v1, v2, v3, v10, v11, v12, ⟨⟩⟩
 kernel_rfl
theorem aZV : aF aG2 = [] := by kernel_rfl
theorem aOO : aG aG2 = 4 := by kernel_rfl
theorem aTU : cU Tryz.prog 45 aG2 ⟨T4, Z3, Q6⟩ := by
 exact cW aS7.callee aJ.mixed _ (aE aZV trivial) aNL
theorem aWI : aF c42 = [aG2] := by kernel_rfl
theorem aYS : ∀ x, bQ Tryz.prog E42 Tryz.f42 (aC Tryz.f42) aYB c42 [.int .i64, .list TyE, .int .i64, .list TyE] [.list TyE, .bool] x = f42 x := by
 rintro ⟨v0, v1, v2, v3, ⟨⟩⟩
 kernel_rfl
theorem a5N : cL Tryz.prog 42 [.int .i64, .list TyE, .int .i64, .list TyE] [.list TyE, .bool] f42 := by
 exact aZ aJ aS7 Tryz.func42 (c := c42) (by kernel_rfl) (aT := aC Tryz.f42) (lt := aYB) (aE aWI ⟨cX aOO rfl aTU, trivial⟩) aYS
abbrev e42 : Ent := ⟨42, [.int .i64, .list TyE, .int .i64, .list TyE], [.list TyE, .bool], f42⟩
theorem a1Z : Ent.OK Tryz.prog e42 := a5N

/-! schisma/schismalaw46.QV -/
def f18 (x : aH [.agg TyA, .agg TyB]) : Option (aH [.agg TyA, .bool]) := match x with
 | (v0, v1, ()) =>
  aB (f42 (v1.1, v0.2.2.1, v1.2.2.1, v0.2.2.2, ())) fun y1 =>
  aB (f42 (v1.2.1, v0.2.2.1, v1.2.2.2, v0.2.2.2, ())) fun y2 =>
  bif y1.2.1 then
   some ((v0.1, (v0.2.1, (y1.1, y2.1))), y2.2.1, ())
  else some ((v0.1, (v0.2.1, (y1.1, y2.1))), false, ())
noncomputable def c18 : Code := aS Tryz.f18
abbrev E18 : Env := bI [e42]
theorem a0V : aY Tryz.prog E18 := aX ⟨a1Z, trivial⟩
def a3Z (id : Nat) : Option aR := none
theorem aVX : aF c18 = [] := by kernel_rfl
theorem aZB : ∀ x, bQ Tryz.prog E18 Tryz.f18 (aC Tryz.f18) a3Z c18 [.agg TyA, .agg TyB] [.agg TyA, .bool] x = f18 x := by
 rintro ⟨v0, v1, ⟨⟩⟩
 kernel_rfl
theorem a4J : cL Tryz.prog 18 [.agg TyA, .agg TyB] [.agg TyA, .bool] f18 := by
 exact aZ aJ a0V Tryz.func18 (c := c18) (by kernel_rfl) (aT := aC Tryz.f18) (lt := a3Z) (aE aVX trivial) aZB
abbrev e18 : Ent := ⟨18, [.agg TyA, .agg TyB], [.agg TyA, .bool], f18⟩
theorem a0U : Ent.OK Tryz.prog e18 := a4J

/-! schisma/schismalaw46.same -/
def f19 (x : aH [.agg TyA, .agg TyA]) : Option (aH [.bool]) := match x with
 | (v0, v1, ()) =>
  bif eqI v0.1 v1.1 then
   aB (f43 (v0.2.1, v1.2.1, ())) fun y1 =>
   bif y1.1 then
    aB (f43 (v0.2.2.1, v1.2.2.1, ())) fun y2 =>
    bif y2.1 then
     aB (f43 (v0.2.2.2, v1.2.2.2, ())) fun y3 =>
     some (y3.1, ())
    else some (false, ())
   else some (false, ())
  else some (false, ())
noncomputable def c19 : Code := aS Tryz.f19
abbrev E19 : Env := bI [e43]
theorem aX0 : aY Tryz.prog E19 := aX ⟨aZY, trivial⟩
def a2Z (id : Nat) : Option aR := none
theorem aV5 : aF c19 = [] := by kernel_rfl
theorem a0J : ∀ x, bQ Tryz.prog E19 Tryz.f19 (aC Tryz.f19) a2Z c19 [.agg TyA, .agg TyA] [.bool] x = f19 x := by
 rintro ⟨v0, v1, ⟨⟩⟩
 kernel_rfl
theorem a5Q : cL Tryz.prog 19 [.agg TyA, .agg TyA] [.bool] f19 := by
 exact aZ aJ aX0 Tryz.func19 (c := c19) (by kernel_rfl) (aT := aC Tryz.f19) (lt := a2Z) (aE aV5 trivial) a0J
abbrev e19 : Ent := ⟨19, [.agg TyA, .agg TyA], [.bool], f19⟩
theorem aRV : Ent.OK Tryz.prog e19 := a5Q

/-! schisma/schismalaw46.none -/
def f17 (x : aH [.agg TyA]) : Option (aH [.bool]) := match x with
 | (v0, ()) =>
  aB (f19 (v0, (0, ([], ([], []))), ())) fun y1 =>
  some (y1.1, ())
/-! schisma/schismalaw46.check -/
abbrev aKI : List (Nat × Kd) := [(1, .box 25 TyA), (20, .list TyD), (21, .int .i64), (22, .int .i64)]
abbrev aSL : List (Ex × List (Nat × Kd)) := [(.ret, [(2, .int .i64)]), (.exit 0, [])]
def aT3 (x : Shape.den aKI) : Option (Shape.den aKI ⊕ aU aSL) := match x with
 | (v1, v20, v21, v22, ()) =>
  bif ltI v22 v21 then
   bif aQ v22 v20.length then aB (f37 ((v20.getD v22.toNat []), ())) fun y2 =>
   bif !(eqI y2.1 0) then
    some (.inr (.inl (y2.1, ())))
   else bif !(eqI ((v20.getD v22.toNat []).length : Int) (v1.2.1.length : Int)) then
    some (.inr (.inl (5, ())))
   else some (.inl (v1, v20, v21, (aL .i64 (v22 + 1)), ())) else none
  else some (.inr (.inr ((()))))
def aGU (x : Shape.den aKI) : Option (aU aSL) := bU aT3 (2 ^ 64) x
def f14 (x : aH [.agg TyA]) : Option (aH [.int .i64]) := match x with
 | (v0, ()) =>
  bif !(eqI v0.1 1) then
   bif !(eqI v0.1 2) then
    some (12, ())
   else aB (aGU (v0, [v0.2.1, v0.2.2.1, v0.2.2.2], ([v0.2.1, v0.2.2.1, v0.2.2.2].length : Int), 0, ())) fun z3 =>
   lN z3 (fun a4 => some (a4.1, ())) fun b5 =>
   some (0, ())
  else aB (aGU (v0, [v0.2.1, v0.2.2.1, v0.2.2.2], ([v0.2.1, v0.2.2.1, v0.2.2.2].length : Int), 0, ())) fun z6 =>
  lN z6 (fun a7 => some (a7.1, ())) fun b8 =>
  some (0, ())
/-! schisma/schismalaw46.few -/
abbrev aKJ : List (Nat × Kd) := [(11, .list TyD), (12, .int .i64), (13, .int .i64)]
abbrev aSH : List (Ex × List (Nat × Kd)) := [(.ret, [(2, .bool)]), (.exit 0, [])]
def aR0 (x : Shape.den aKJ) : Option (Shape.den aKJ ⊕ aU aSH) := match x with
 | (v11, v12, v13, ()) =>
  bif ltI v13 v12 then
   bif aQ v13 v11.length then bif ltI 5 ((v11.getD v13.toNat []).length : Int) then
    bif ltI ((v11.getD v13.toNat []).length : Int) 63 then
     some (.inr (.inl (false, ())))
    else bif ltI 66 ((v11.getD v13.toNat []).length : Int) then
     some (.inr (.inl (false, ())))
    else some (.inl (v11, v12, (aL .i64 (v13 + 1)), ()))
   else some (.inl (v11, v12, (aL .i64 (v13 + 1)), ())) else none
  else some (.inr (.inr ((()))))
def aRW (x : Shape.den aKJ) : Option (aU aSH) := bU aR0 (2 ^ 64) x
def f13 (x : aH [.agg TyA]) : Option (aH [.bool]) := match x with
 | (v0, ()) =>
  aB (aRW ([v0.2.1, v0.2.2.1, v0.2.2.2], ([v0.2.1, v0.2.2.1, v0.2.2.2].length : Int), 0, ())) fun z1 =>
  lN z1 (fun a2 => some (a2.1, ())) fun b3 =>
  some (true, ())
end Go.PM
set_option linter.unusedSimpArgs false
set_option linter.unusedVariables false
namespace Go.PM
open Go Go.RowKit
def forced (ops : Array Oper) (s : Nat) : Bool := (List.range ops.size).all fun j => Nat.blt j s || Nat.beq (Nat.land ((gZ ops).getD j 0) (2 ^ j - 1)) (2 ^ j - 1)
def aAY (l : List Oper) : Bool := (List.range l.length).all fun i => match l[i]? with
 | some o => match o.guard with
  | some (g, _) => Nat.blt g i
  | none => true
 | none => true
def WV (ops : Array Oper) (s : Nat) : Bool := DQ (gZ ops) 0 ops.toList && forced ops s && aAY ops.toList && HT ops && Nat.ble s ops.size

section
variable {P : Program} {ops : Array Oper} {s : Nat}
theorem aA0 (h : forced ops s = true) {j b : Nat} (hj : j < ops.size) (hs : s ≤ j) (hb : b < j) : ((gZ ops).getD j 0).testBit b = true := by
 have := List.all_eq_true.1 h j (List.mem_range.2 hj)
 rw [Bool.or_eq_true] at this
 rcases this with h1 | h1
 ·have := fC h1; omega
 ·have h2 := Nat.eq_of_beq_eq_true h1
  have h3 : (Nat.land ((gZ ops).getD j 0) (2 ^ j - 1)).testBit b = (2 ^ j - 1).testBit b := by rw [h2]
  have h4 : (2 ^ j - 1).testBit b = true := by rw [Nat.testBit_two_pow_sub_one]; simpa using hb
  rw [h4] at h3
  have h5 : ((gZ ops).getD j 0 &&& (2 ^ j - 1)).testBit b = true := h3
  rw [Nat.testBit_and, Bool.and_eq_true] at h5
  exact h5.1
theorem LC (hm : DQ (gZ ops) 0 ops.toList = true) {i : Nat} {o : Oper} (ho : ops[i]? = some o) : (gZ ops).getD i 0 = E8 (gZ ops) o.after.toList ∧ ∀ e ∈ o.after, Region.binds .any e = true → e.on < i := by
 have := SH hm (i := i) (o := o) (by simpa using ho)
 rwa [Nat.zero_add] at this
theorem VF (hm : DQ (gZ ops) 0 ops.toList = true) {listed : Array Bool} (hc : KZ (gZ ops) (fun i => listed.getD i false)) {i : Nat} (hi : i ∈ Region.ready .any ops listed) :
  i < ops.size ∧ listed.getD i true = false ∧ ∀ b, ((gZ ops).getD i 0).testBit b = true → listed.getD b false = true := by
 obtain ⟨h1, o, ho, h2⟩ := mem_ready.1 hi
 refine ⟨(Array.getElem?_eq_some_iff.1 ho).1, by simpa using h1, fun b hb => ?_⟩
 rw [(LC hm ho).1] at hb
 unfold E8 at hb
 rcases zP _ _ hb with h3 | ⟨e, h3, h4, h5⟩
 ·simp at h3
 ·have h6 := h2 e (Array.mem_toList_iff.1 h3) h4
  rcases h5 with rfl | h5
  ·exact h6
  ·exact hc e.on h6 b h5
theorem aUE (hm : DQ (gZ ops) 0 ops.toList = true) : ∀ (i b : Nat), i < ops.size → ((gZ ops).getD i 0).testBit b = true → b < i := by
 intro i
 induction i using Nat.strongRecOn with
 | _ i ih =>
  intro b hi hb
  obtain ⟨o, ho⟩ : ∃ o, ops[i]? = some o := ⟨ops[i], Array.getElem?_eq_getElem hi⟩
  have hma := LC hm ho
  rw [hma.1] at hb
  unfold E8 at hb
  rcases zP _ _ hb with h3 | ⟨e, h3, h4, h5⟩
  ·simp at h3
  ·have h6 := hma.2 e (Array.mem_toList_iff.1 h3) h4
   rcases h5 with rfl | h5
   ·exact h6
   ·have := ih e.on h6 b (by omega) h5; omega

variable {ro : Option Nat} {n : Nat} {Q : Exit → Act → World → Prop}
theorem aIJ (hm : DQ (gZ ops) 0 ops.toList = true) (hf : forced ops s = true) : ∀ (k j : Nat) (L : Array Bool) (a : Act) (w : World), j + k = ops.size → s ≤ j → L.size = ops.size → (∀ i, i < ops.size → L.getD i false = decide (i < j)) →
  wpListIn (Fr ro) n P ops Q (ops.toList.drop j) a w → wpAnyIn (Fr ro) n P .any ops Q k L a w
 | 0, j, L, a, w, hk, hs, hsz, hL, h => by
  have hd : ops.toList.drop j = [] := List.drop_of_length_le (by simp; omega)
  rw [hd] at h
  refine ⟨?_, h⟩
  by_cases hr : Region.ready .any ops L = []
  ·exact hr
  ·obtain ⟨i, hi⟩ := List.exists_mem_of_ne_nil _ hr
   obtain ⟨h1, o, ho, _⟩ := mem_ready.1 hi
   have hlt := (Array.getElem?_eq_some_iff.1 ho).1
   have h2 := hL i hlt
   rw [decide_eq_true (by omega)] at h2
   have h1 : L.getD i true = false := by simpa using h1
   simp only [Array.getD, hsz, hlt, dif_pos] at h1 h2
   rw [h1] at h2; cases h2
 | k + 1, j, L, a, w, hk, hs, hsz, hL, h => by
  have hj : j < ops.size := by omega
  have hcl : KZ (gZ ops) (fun i => L.getD i false) := by
   intro i hi b hb
   replace hi : L.getD i false = true := hi
   have hilt : i < ops.size := by
    rcases Nat.lt_or_ge i ops.size with h | h
    ·exact h
    ·simp only [Array.getD, hsz, Nat.not_lt.2 h, dif_neg, not_false_iff] at hi; cases hi
   have h1 := hL i hilt
   rw [hi] at h1
   have h2 := of_decide_eq_true h1.symm
   have h3 := aUE hm i b hilt hb
   show L.getD b false = true
   rw [hL b (by omega)]
   exact decide_eq_true (by omega)
  have hready : ∀ i ∈ Region.ready .any ops L, i = j := by
   intro i hi
   obtain ⟨h1, h2, h3⟩ := VF hm hcl hi
   have h4 : ¬ i < j := fun hij => by
    have h5 := hL i h1
    rw [decide_eq_true hij] at h5
    simp only [Array.getD, hsz, h1, dif_pos] at h2 h5
    rw [h2] at h5; cases h5
   rcases Nat.lt_or_ge j i with hji | hji
   ·exfalso
    have h5 := h3 j (aA0 hf h1 (by omega) hji)
    rw [hL j hj] at h5
    have := of_decide_eq_true h5
    omega
   ·omega
  obtain ⟨o, ho⟩ : ∃ o, ops[j]? = some o := ⟨ops[j], Array.getElem?_eq_getElem hj⟩
  have hd : ops.toList.drop j = o :: ops.toList.drop (j + 1) := by
   rw [List.drop_eq_getElem_cons (by simpa using hj)]
   congr 1
   have := (Array.getElem?_eq_some_iff.1 ho).2
   simpa using this
  rw [hd] at h
  unfold wpListIn at h
  have ih : ∀ a w, wpListIn (Fr ro) n P ops Q (ops.toList.drop (j + 1)) a w → wpAnyIn (Fr ro) n P .any ops Q k (L.setIfInBounds j true) a w := fun a w h => by
   refine aIJ hm hf k (j + 1) _ a w (by omega) (by omega) (by simpa using hsz) (fun i hi => ?_) h
   by_cases hij : j = i
   ·subst hij
    rw [decide_eq_true (by omega)]
    have hlt : j < L.size := by omega
    simp [Array.getD, hlt]
   ·rw [getD_set_ne false hij, hL i hi]
    by_cases h2 : i < j
    ·rw [decide_eq_true h2, decide_eq_true (by omega)]
    ·rw [decide_eq_false h2, decide_eq_false (by omega)]
  refine ⟨fun hr => ?_, fun i hi => ?_⟩
  ·exfalso
   have : j ∈ Region.ready .any ops L := mem_ready.2 ⟨by
    have := hL j hj
    rw [decide_eq_false (by omega)] at this
    have hlt : j < L.size := by omega
    simpa [Array.getD, hlt] using this, o, ho, fun e he hb => by
     have := (LC hm ho).2 e he hb
     rw [hL e.on (by omega)]
     exact decide_eq_true this⟩
   rw [hr] at this
   cases this
  ·have := hready i hi
   subst this
   unfold wpOpIn
   rw [ho]
   simp only
   by_cases hw : Region.wanted o (yielded ops a.tmps) = true
   ·rw [if_pos hw] at h ⊢
    exact Oper.wpIn_mono ih h
   ·rw [if_neg hw] at h ⊢
    exact ⟨h.1, ih _ _ h.2⟩

theorem aK9 {o : Oper} {y y' : Nat → Option Bool} (h : ∀ g b, o.guard = some (g, b) → y g = y' g) : Region.wanted o y = Region.wanted o y' := by
 unfold Region.wanted
 cases hg : o.guard with
 | none => rfl
 | some p =>
  obtain ⟨g, b⟩ := p
  simp only [h g b hg]
theorem aFL {l : List Oper} (h : aAY l = true) {i : Nat} {o : Oper} (ho : l[i]? = some o) {g : Nat} {b : Bool} (hg : o.guard = some (g, b)) : g < i := by
 have := List.all_eq_true.1 h i (List.mem_range.2 (List.getElem?_eq_some_iff.1 ho).1)
 rw [ho] at this
 simp only [hg] at this
 exact fC this

theorem aQN {ds : List Deferred} {Q1 : Exit → Act → World → Prop} (hm : DQ (gZ ops) 0 ops.toList = true) (hf : forced ops s = true) (hg : aAY ops.toList = true) (hnd : HT ops = true) (hs : s ≤ ops.size)
  (hno : ∀ e a w, Q1 e a w → e = .normal) (hQ : ∀ a w, Q1 .normal a w → wpListIn (Fr ro) n P ops Q (ops.toList.drop s) (mZ ds a) w) :
  ∀ (k : Nat) (L1 L : Array Bool) (a : Act) (w : World), L1.size = s → L.size = ops.size → (∀ i, i < s → L1.getD i false = L.getD i false) → (∀ i, s ≤ i → L.getD i false = false) → KZ (gZ ops) (fun i => L.getD i false) → (List.range s).countP (fun i => !L.getD i false) = k →
   wpAny P .any (ops.toList.take s).toArray Q1 k L1 a w → wpAnyIn (Fr ro) n P .any ops Q (k + (ops.size - s)) L (mZ ds a) w
 | 0, L1, L, a, w, h1, h2, h3, h4, hc, hk, h => by
  rw [Nat.zero_add]
  refine aIJ hm hf (ops.size - s) s L _ w (by omega) (Nat.le_refl _) h2 (fun i hi => ?_) (hQ a w h.2)
  by_cases his : i < s
  ·rw [decide_eq_true his]
   rw [List.countP_eq_zero] at hk
   have := hk i (List.mem_range.2 his)
   simpa using this
  ·rw [decide_eq_false his, h4 i (by omega)]
 | k + 1, L1, L, a, w, h1, h2, h3, h4, hc, hk, h => by
  have hun : ∃ i, i < s ∧ L.getD i false = false := by
   have : 0 < (List.range s).countP (fun i => !L.getD i false) := by omega
   obtain ⟨i, hi, hp⟩ := List.countP_pos_iff.1 this
   exact ⟨i, List.mem_range.1 hi, by simpa using hp⟩
  obtain ⟨i0, hi0, hu0⟩ := hun
  rw [show k + 1 + (ops.size - s) = (k + (ops.size - s)) + 1 by omega]
  refine ⟨fun hr => ?_, fun i hi => ?_⟩
  ·exfalso
   have all : ∀ i, i < ops.size → L.getD i false = true := by
    intro i
    induction i using Nat.strongRecOn with
    | _ i ih =>
     intro hi
     cases hli : L.getD i false with
     | true => rfl
     | false =>
      obtain ⟨o, ho⟩ : ∃ o, ops[i]? = some o := ⟨ops[i], Array.getElem?_eq_getElem hi⟩
      have : i ∈ Region.ready .any ops L := mem_ready.2 ⟨by
       have hlt : i < L.size := by omega
       simpa [Array.getD, hlt] using hli, o, ho, fun e he hb => ih e.on ((LC hm ho).2 e he hb) (by have := (LC hm ho).2 e he hb; omega)⟩
      rw [hr] at this
      cases this
   rw [all i0 (by omega)] at hu0
   cases hu0
  ·obtain ⟨hi1, hi2, hi3⟩ := VF hm hc hi
   have his : i < s := by
    rcases Nat.lt_or_ge i s with h | h
    ·exact h
    ·have := hi3 i0 (aA0 hf hi1 h (by omega))
     rw [hu0] at this; cases this
   obtain ⟨_, o, ho, hdeps⟩ := mem_ready.1 hi
   have hLi : L.getD i false = false := by
    have hlt : i < L.size := by omega
    simp only [Array.getD, hlt, dif_pos] at hi2 ⊢
    exact hi2
   have hpre : ∀ j, j < s → (ops.toList.take s).toArray[j]? = ops[j]? := by
    intro j hj
    simp only [List.getElem?_toArray, List.getElem?_take, hj, if_true, Array.getElem?_toList]
   have hready : i ∈ Region.ready .any (ops.toList.take s).toArray L1 := mem_ready.2 ⟨by
    have := h3 i his
    rw [hLi] at this
    have hlt : i < L1.size := by omega
    simpa [Array.getD, hlt] using this, o, by rw [hpre i his]; exact ho, fun e he hb => by
     have h5 := (LC hm ho).2 e he hb
     rw [h3 e.on (by omega)]
     exact hdeps e he hb⟩
   have hop := h.2 i hready
   have hw : Region.wanted o (yielded (ops.toList.take s).toArray a.tmps) = Region.wanted o (yielded ops (mZ ds a).tmps) := aK9 fun g b hgu => by
    have hgi := aFL hg (i := i) (o := o) (by simpa using ho) hgu
    unfold yielded
    rw [hpre g (by omega)]
    rfl
   have hset : ∀ a w, wpAny P .any (ops.toList.take s).toArray Q1 k (L1.setIfInBounds i true) a w → wpAnyIn (Fr ro) n P .any ops Q (k + (ops.size - s)) (L.setIfInBounds i true) (mZ ds a) w := by
    intro a w h
    have hLs : ∀ j, j ≠ i → (L.setIfInBounds i true).getD j false = L.getD j false := fun j hj => getD_set_ne false (fun e => hj e.symm)
    have hL1s : ∀ j, j ≠ i → (L1.setIfInBounds i true).getD j false = L1.getD j false := fun j hj => getD_set_ne false (fun e => hj e.symm)
    have hSi : (L.setIfInBounds i true).getD i false = true := by
     have hlt : i < L.size := by omega
     simp [Array.getD, hlt]
    have hS1i : (L1.setIfInBounds i true).getD i false = true := by
     have hlt : i < L1.size := by omega
     simp [Array.getD, hlt]
    refine aQN hm hf hg hnd hs hno hQ k _ _ a w (by simpa using h1) (by simpa using h2) ?_ ?_ ?_ ?_ h
    ·intro j hj
     by_cases hji : j = i
     ·subst hji; rw [hSi, hS1i]
     ·rw [hLs j hji, hL1s j hji, h3 j hj]
    ·intro j hj
     rw [hLs j (by omega)]; exact h4 j hj
    ·intro j hj b hb
     show (L.setIfInBounds i true).getD b false = true
     by_cases hbi : b = i
     ·subst hbi; exact hSi
     ·rw [hLs b hbi]
      by_cases hji : j = i
      ·subst hji; exact hi3 b hb
      ·have hj' : L.getD j false = true := by rw [← hLs j hji]; exact hj
       exact hc j hj' b hb
    ·have := SY (p := fun i => !L.getD i false) (p' := fun j => !(L.setIfInBounds i true).getD j false) (i := i) (by simp only [hLi, Bool.not_false]) (by simp only [hSi, Bool.not_true]) (fun j hj => by simp only [hLs j hj]) s his
     omega
   unfold wpOp at hop
   rw [hpre i his, ho] at hop
   simp only at hop
   unfold wpOpIn
   rw [ho]
   simp only
   rw [hw] at hop
   by_cases hww : Region.wanted o (yielded ops (mZ ds a).tmps) = true
   ·rw [if_pos hww] at hop ⊢
    rcases hop with hop | ⟨_, a0, w0, h0⟩
    ·exact aE2 (C9 hnd (by rw [← Array.getElem?_toList] at ho; exact List.mem_of_getElem? ho)) hset (fun ch a w h => by cases hno _ a w h) (fun a w h => by cases hno _ a w h) hop
    ·cases hno _ a0 w0 h0
   ·rw [if_neg hww] at hop ⊢
    refine ⟨fun _ _ => trivial, ?_⟩
    rw [BF]
    exact hset _ _ hop

theorem oK {F : Fence} {Q1 : Exit → Act → World → Prop} {l2 : List Oper} (hno : ∀ e a w, Q1 e a w → e = .normal) (hQ : ∀ a w, Q1 .normal a w → wpListIn F n P ops Q l2 a w) : ∀ {l1 : List Oper} {a w}, wpListIn F n P ops Q1 l1 a w → wpListIn F n P ops Q (l1 ++ l2) a w
 | [], a, w, h => hQ a w h
 | o :: l1, a, w, h => by
  rw [List.cons_append]
  unfold wpListIn at h ⊢
  split at h
  ·rename_i hw
   rw [if_pos hw]
   refine ⟨h.1, ?_⟩
   have h2 := h.2
   generalize (o.semAt F.round a.eval).run P w = r at h2 ⊢
   cases r with
   | ok x w' =>
    cases x with
    | value v => exact oK hno hQ h2
    | skip => exact oK hno hQ h2
    | defer d => exact oK hno hQ h2
    | enter f args =>
     refine ⟨h2.1, CallsIn.mono h2.2 ?_⟩
     rintro e w'' he
     cases e with
     | returned v => exact oK hno hQ he
     | panicked ch => cases hno _ _ _ he
     | outgrown => obtain ⟨a0, w0, h0⟩ := he; cases hno _ _ _ h0
    | row row args => exact ⟨h2.1, RowsIn.mono h2.2 fun v w'' he => oK hno hQ he⟩
    | round l f t as1 b =>
     refine ⟨h2.1, RoundIn.mono h2.2 ?_⟩
     rintro e w'' he
     cases e with
     | returned v => exact oK hno hQ he
     | panicked ch => cases hno _ _ _ he
     | outgrown => obtain ⟨a0, w0, h0⟩ := he; cases hno _ _ _ h0
    | _ => exact h2.elim
   | halt x w' =>
    cases x <;> first | (cases hno _ _ _ h2; done) | exact h2.elim
  ·rename_i hw
   rw [if_neg hw]
   exact ⟨h.1, oK hno hQ h.2⟩
end
section
variable {P : Program} {E : Env} {nt : Nat} {F F' : Frm} {H H' : Heap} {ops : Array Oper} {s : Nat}
theorem aDR (hcl : cN P (dF P E)) (hP : P.follows .mixedOrders = true) {id : Nat} {draw : Bool} (hsp : WV ops s = true)
  (hrun : (bif draw then HH P (dF P E) nt (ops.toList.take s).toArray F H else EC P (dF P E) nt ops.toList (ops.toList.take s) F H) = some (F', H'))
  {ro : Option Nat} {n : Nat} {n0 : Nat → Prop} {wi : World} {Gi : Gd} {μi : Mp} {a : Act} {w : World} {ds : List Deferred} {Q : Exit → Act → World → Prop} (hI : I n0 wi Gi μi nt F H a w)
  (hQ : ∀ a' w', I n0 wi Gi μi nt F' H' a' w' → wpListIn (Fr ro) n P ops Q (ops.toList.drop s) (mZ ds a') w') : (Code.region id ops draw).wpIn (Fr ro) n P Q (mZ ds a) w := by
 simp only [WV, Bool.and_eq_true] at hsp
 obtain ⟨⟨⟨⟨hm, hf⟩, hg⟩, hnd⟩, hs⟩ := hsp
 have hs := Nat.le_of_ble_eq_true hs
 cases draw with
 | true =>
  simp only [cond_true] at hrun
  have h1 := LB (Q := fun e a' w' => e = .normal ∧ I n0 wi Gi μi nt F' H' a' w') hcl hrun hI (fun a' w' h => ⟨rfl, h⟩)
  refine wpIn_region_any hP ?_
  have hsz : (ops.toList.take s).toArray.size = s := by simp [List.length_take]; omega
  rw [hsz] at h1
  have hfalse : ∀ m j, (Array.replicate m false).getD j false = false := fun m j => by
   simp only [Array.getD]
   split <;> simp
  have := aQN (n := n) (ro := ro) (ds := ds) (Q := Q) hm hf hg hnd hs (fun e a w h => h.1) (fun a w h => hQ a w h.2) s (Array.replicate s false) (Array.replicate ops.size false) a _ (by simp) (by simp) (fun i _ => by rw [hfalse, hfalse]) (fun i _ => hfalse _ i) (fun j hj b hb => by
   have : (Array.replicate ops.size false).getD j false = true := hj
   rw [hfalse] at this; cases this) (by
   rw [List.countP_eq_length.2]
   ·simp
   ·intro i _
    rw [hfalse]; rfl) h1
  rwa [show s + (ops.size - s) = ops.size by omega] at this
 | false =>
  simp only [cond_false] at hrun
  refine wpIn_region_list ?_
  rw [← List.take_append_drop s ops.toList]
  have h1 := qX (Q := fun e a' w' => e = .normal ∧ I n0 wi Gi μi nt F' H' a' w') hcl (ops.toList.take s) F H a w hrun hI (fun a' w' h => ⟨rfl, h⟩)
  have h2 := PD (ro := ro) (n := n) (ds := ds) (Q' := fun e a' w' => e = .normal ∧ wpListIn (Fr ro) n P ops Q (ops.toList.drop s) a' w') (fun a w h => by cases h.1) (fun e a w h => ⟨h.1, hQ a w h.2⟩) (fun o ho => C9 hnd (List.mem_of_mem_take ho)) h1
  exact oK (fun e a w h => h.1) (fun a w h => h.2) h2
end
end Go.PM
set_option linter.unusedSimpArgs false
set_option linter.unusedVariables false
namespace Go.PM
open Go Go.RowKit
def Sg (Φ : (Nat → Prop) → (Nat → Prop) → World → Prop) (G0 G : Gd) (μ : Mp) (H : Heap) (A : World) : Prop :=
 ∃ (T X : Nat → Prop) (B : World) (GB : Gd) (μB : Mp), Φ T X B ∧ (∀ b, X b → T b) ∧ (∀ b, T b → b < B.heap.size) ∧ (∀ b, GB b → G0 b ∨ T b) ∧ (∀ b, G0 b → GB b) ∧
  Ext (fun b => X b ∨ B.heap.size ≤ b) B GB μB A G μ ∧ aV (fun b => X b ∨ B.heap.size ≤ b) G μ H A
section
variable {P : Program} {Φ : (Nat → Prop) → (Nat → Prop) → World → Prop} {G0 G G' : Gd} {μ μ' : Mp} {H H' : Heap} {A A' W : World} {F F' : Frm} {nt n : Nat} {a : Act}
theorem Sg.start {J : (Nat → Prop) → (Nat → Prop) → World → Prop} {g0 : Nat → Prop} (hlt : Lt W g0) (h : J (fun _ => False) (fun _ => False) W) : Sg J (Gd.of g0) (Gd.of g0) aK [] W :=
 ⟨_, _, W, Gd.of g0, aK, h, fun b h => h, fun b h => h.elim, fun b h => .inl h, fun b h => h, Ext.refl _ _ _ _, fun r k b h => by simp at h, fun r k g h => by simp at h, fun r s k l b h => by simp at h, hlt, fun _ _ => ⟨rfl, rfl⟩, fun b hb => .inr hb, kR.none _ _ (fun _ => rfl) _ _ (fun r k h => by simp at h)⟩
theorem Sg.open_ (h : Sg Φ G0 G μ H A) : ∃ n0, aV n0 G μ H A ∧ (∀ b, G0 b → G b) ∧ ∀ A' G' μ' H', Ext n0 A G μ A' G' μ' → aV n0 G' μ' H' A' → Sg Φ G0 G' μ' H' A' := by
 obtain ⟨T, X, B, GB, μB, h1, h2, h3, h4, h5, h6, h7⟩ := h
 exact ⟨_, h7, fun b hb => (h6.good b (h5 b hb)).1, fun A' G' μ' H' e w => ⟨T, X, B, GB, μB, h1, h2, h3, h4, h5, h6.trans e, w⟩⟩
theorem Sg.stp (h : Sg Φ G0 G μ H A) : ∃ T X B, Stp X B A ∧ Φ T X B := by
 obtain ⟨T, X, B, GB, μB, h1, h2, h3, h4, h5, h6, h7⟩ := h
 exact ⟨T, X, B, ⟨fun b hb hx => h6.old b hb (by rintro (h | h); exact hx h; omega), h6.room, h6.os, h6.tape, h6.output, h6.size, h6.drawn⟩, h1⟩

theorem Sg.freeze (h : Sg Φ G0 G μ H A) {r : Nat} {k : Blk} (hr : H[r]? = some (some k)) (hf : k.frozen = false) : Sg Φ G0 (G.or fun x => μ.loc r = some x) μ (H.set r (some { k with frozen := true })) A ∧ Mono A G μ A (G.or fun x => μ.loc r = some x) μ := by
 obtain ⟨n0, hW, _, hS⟩ := h.open_
 obtain ⟨e, w⟩ := DJ hW hr hf
 exact ⟨hS _ _ _ _ e w, e.toMono⟩
theorem Sg.yield {ks : List Kd} {l : Nat} {all : List (aH ks)} {J Jx : List (aH ks) → (Nat → Prop) → (Nat → Prop) → World → Prop}
  (hY : ∀ pre e post T X B T' X' A us Gx m', all = pre ++ e :: post → J pre T X B → Stp X B A → (∀ b, T' b → (T b ∨ B.heap.size ≤ b) ∧ b < A.heap.size) → (∀ b, X' b → T' b ∧ (X b ∨ B.heap.size ≤ b)) →
   (∀ b, Gx b → (G0 b ∨ T' b) ∧ ¬ X' b) → VRs A (Gd.of Gx) aK (hX ks e) us →
   YieldAt Fence.wide m' P l us.toArray A fun en C =>
    ((∀ b, b < A.heap.size → G0 b ∨ T' b → C.heap[b]? = A.heap[b]?) ∧ (∀ b n, Room A b n → Room C b n) ∧ A.heap.size ≤ C.heap.size ∧ A.drawn ≤ C.drawn) ∧ ((en = .returned (.bool true) ∧ J (pre ++ [e]) T' X' C) ∨ (en = .returned (.bool false) ∧ Jx (pre ++ [e]) T' X' C)))
  {pre post : List (aH ks)} {e : aH ks} (hall : all = pre ++ e :: post) {us : List Value} (h : Sg (J pre) G0 G μ H A) (hus : VRs A G aK (hX ks e) us) (hpl : dM.noRows (hX ks e) = true) (m' : Nat) :
  YieldAt Fence.wide m' P l us.toArray A fun en C => Mono A G μ C G μ ∧ ((en = .returned (.bool true) ∧ Sg (J (pre ++ [e])) G0 G μ H C) ∨ (en = .returned (.bool false) ∧ Sg (Jx (pre ++ [e])) G0 G μ H C)) := by
 obtain ⟨T, X, B, GB, μB, h1, h2, h3, h4, h5, h6, h7⟩ := h
 obtain ⟨T', hT'⟩ : ∃ T' : Nat → Prop, T' = fun b => T b ∨ (B.heap.size ≤ b ∧ b < A.heap.size) := ⟨_, rfl⟩
 obtain ⟨X', hX'⟩ : ∃ X' : Nat → Prop, X' = fun b => (∃ r k, H[r]? = some (some k) ∧ k.frozen = false ∧ μ.loc r = some b) ∨ ∃ j, G.row j = some b := ⟨_, rfl⟩
 have hGT : ∀ b, G b → G0 b ∨ T' b := by
  intro b hb
  have hlt := h7.lt b hb
  rw [hT']
  rcases h6.new b hb with h | h | h
  ·exact (h4 b h).imp id .inl
  ·exact .inr (.inl (h2 b h))
  ·exact .inr (.inr ⟨h, hlt⟩)
 have hXT : ∀ b, X' b → T' b ∧ (X b ∨ B.heap.size ≤ b) ∧ ¬ G b := by
  intro b hb
  rw [hX'] at hb
  rcases hb with ⟨r, k, g1, g2, g3⟩ | ⟨j, hj⟩
  case inr =>
   obtain ⟨s1, s2, s3, _⟩ := h7.rows.sep j b hj
   rw [hT']
   rcases s2 with h | h
   ·exact ⟨.inl (h2 b h), .inl h, s3⟩
   ·exact ⟨.inr ⟨h, s1⟩, .inr h, s3⟩
  obtain ⟨c, q1, _, _, _, q5⟩ := h7.blk r k b g1 g3
  have hlt := h7.j3 g1 g3
  rw [hT']
  rcases (q5 g2).1 with h | h
  ·exact ⟨.inl (h2 b h), .inl h, (q5 g2).2⟩
  ·exact ⟨.inr ⟨h, hlt⟩, .inr h, (q5 g2).2⟩
 have hst : Stp X B A := ⟨fun b hb hx => h6.old b hb (by rintro (h | h); exact hx h; omega), h6.room, h6.os, h6.tape, h6.output, h6.size, h6.drawn⟩
 obtain ⟨fn, tmps, as1, body, y1, y2⟩ := hY pre e post T X B T' X' A us G.ok m' hall h1 hst (fun b hb => by
  rw [hT'] at hb
  rcases hb with hb | hb
  ·exact ⟨.inl hb, Nat.lt_of_lt_of_le (h3 b hb) h6.size⟩
  ·exact ⟨.inr hb.1, hb.2⟩) (fun b hb => ⟨(hXT b hb).1, (hXT b hb).2.1⟩) (fun b hb => ⟨hGT b hb, fun hx => (hXT b hx).2.2 hb⟩) (mA (G := G) (G' := Gd.of G.ok) (fun b h => h) _ _ _ hpl hus)
 refine ⟨fn, tmps, as1, body, y1, y2.mono ?_⟩
 rintro en C ⟨⟨k1, k2, k3, k4⟩, hout⟩
 have hgood : ∀ b, G b → C.heap[b]? = A.heap[b]? := fun b hb => k1 b (h7.lt b hb) (hGT b hb)
 have hmono : Mono A G μ C G μ := ⟨fun b hb => ⟨hb, hgood b hb⟩, fun _ _ h => h, fun _ _ h => h, k2, fun _ _ h => h⟩
 have hTs : ∀ b, T' b → b < C.heap.size := by
  intro b hb
  rw [hT'] at hb
  rcases hb with hb | hb
  ·have := h3 b hb; have := h6.size; omega
  ·omega
 have hwinv : aV (fun b => X' b ∨ C.heap.size ≤ b) G μ H C := by
  refine ⟨?_, h7.tags, h7.inj, h7.lt.step (fun b hb => ⟨hb, hgood b hb⟩) fun b hb => Nat.lt_of_lt_of_le (h7.lt b hb) k3, h7.top, fun b hb => .inr hb, (h7.rows.QV (n1 := fun b => X' b ∨ C.heap.size ≤ b) fun j b hj _ => .inl (by rw [hX']; exact .inr ⟨j, hj⟩)).step hmono.aK k3 (fun _ => rfl) (fun j b hj => ⟨?_, id, fun r k h1 h2 h3 => ⟨r, k, h1, h2, h3⟩⟩) (fun r k _ _ h1 _ _ => ⟨k, h1, rfl, rfl, rfl, rfl⟩)⟩
  case refine_2 =>
   exact k1 b (h7.rows.sep j b hj).1 (.inr (hXT b (by rw [hX']; exact .inr ⟨j, hj⟩)).1)
  intro r k b hr hb
  obtain ⟨c, q1, q2, q3, q4, q5⟩ := h7.blk r k b hr hb
  have hx : k.frozen = false → X' b := fun hf => by rw [hX']; exact .inl ⟨r, k, hr, hf, hb⟩
  have heq : C.heap[b]? = A.heap[b]? := by
   cases hf : k.frozen with
   | true => exact hgood b (q4 hf)
   | false => exact k1 b (h7.j3 hr hb) (.inr (hXT b (hx hf)).1)
  exact ⟨c, heq.trans q1, aP.mono hmono heq 0 _ q2, q3, q4, fun hf => ⟨.inl (hx hf), (q5 hf).2⟩⟩
 have key : ∀ {Ψ : (Nat → Prop) → (Nat → Prop) → World → Prop}, Ψ T' X' C → Sg Ψ G0 G μ H C := fun hψ =>
  ⟨T', X', C, G, μ, hψ, fun b hb => (hXT b hb).1, hTs, hGT, fun b hb => (h6.good b (h5 b hb)).1, Ext.refl _ _ _ _, hwinv⟩
 refine ⟨hmono, ?_⟩
 rcases hout with ⟨rfl, hj⟩ | ⟨rfl, hj⟩
 ·exact .inl ⟨rfl, key hj⟩
 ·exact .inr ⟨rfl, key hj⟩

variable {ops : Array Oper} {Q : Exit → Act → World → Prop}
theorem aRS {o : Oper} {c : Call} {f : Operand} {rest : List Oper} {l : Nat} {us : Array Value} {R : Ending → World → Prop} (ho : o.op = .call c) (hc : c.callee = .value f) (hw : Region.wanted o (yielded ops a.tmps) = true) (hf : a.eval f = .func (.yield l) #[] #[]) (hargs : c.args.map a.eval = us)
  (hy : ∀ m', YieldAt Fence.wide m' P l us A R) (hR : ∀ en C, R en C → ∃ v, en = .returned v ∧ wpListIn Fence.wide n P ops Q rest (a.put o.dst v) C) : wpListIn Fence.wide n P ops Q (o :: rest) a A := by
 obtain ⟨fn, tmps, as1, body, y1, y2⟩ := hy (n - 1)
 unfold wpListIn
 rw [if_pos hw]
 refine ⟨fun _ _ => trivial, ?_⟩
 have hd : ∀ c', o.op ≠ .defer c' := fun c' h => by rw [ho] at h; cases h
 have hs : (o.semAt none a.eval).run P A = .ok (.round l fn tmps as1 body) A := by
  rw [Oper.semAt_none]
  simp [execOp, ho, resolve, hc, hf, hargs, Deferred.ofValue, Sem.run_bind, Sem.run_pure, Result.andThen_ok, invoke, y1]
 show Oper.uponIn Fence.wide n P o a _ Q ((o.semAt none a.eval).run P A)
 rw [hs]
 refine ⟨fun h => (by cases h), y2.mono ?_⟩
 rintro e C he
 obtain ⟨v, rfl, h⟩ := hR e C he
 exact h
theorem aWJ {o : Oper} {rest : List Oper} (hw : Region.wanted o (yielded ops a.tmps) = false) (h : wpListIn Fence.wide n P ops Q rest (a.put o.dst undef) A) : wpListIn Fence.wide n P ops Q (o :: rest) a A := by
 unfold wpListIn
 rw [if_neg (by rw [hw]; decide)]
 exact ⟨fun _ _ => trivial, h⟩
end
end Go.PM
