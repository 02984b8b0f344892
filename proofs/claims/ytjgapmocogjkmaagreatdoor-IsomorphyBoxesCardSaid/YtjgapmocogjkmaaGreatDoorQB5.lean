/- Texts of one proof, joined (5). -/
import Derived.OrdersIn
import Derived.TacticsIn
import Derived.RangeFuncRecord
import Derived.Sort.LoopGhostIn
import Derived.RangeFuncSeq
import Derived.Test.YtjgapmocogjkmaaGreatDoorProg
import Derived.Lib.AppendIntMem
import Derived.WalkKit
import Derived.BigCall
import Derived.BigGuard
import Derived.Lib.SmallJoins
import Derived.Lib.Walk
import Derived.Lib.SliceRun
import Derived.Lib.AppendZerosOnto
import Derived.Deep.Upon
import Derived.Test.YtjgapmocogjkmaaGreatDoorQB4
set_option linter.unusedSimpArgs false
set_option linter.unusedVariables false
namespace Go.PM
open Go Go.RowKit
@[reducible] def Fr (ro : Option Nat) : Fence := { Fence.wide with round := ro }
def lI (ds : List Deferred) (a : Act) : Act := { a with defers := a.defers ++ ds }
theorem aMM (ds : List Deferred) (a : Act) : (lI ds a).eval = a.eval := by
 funext x; cases x <;> rfl
theorem AR (ds : List Deferred) (a : Act) (d : Option Tmp) (v : Value) : (lI ds a).put d v = lI ds (a.put d v) := by
 cases d <;> rfl
theorem aHK {ro : Option Nat} {n : Nat} {P : Program} {f : FuncId} {args : Array Value} {w : World} {R : Ending → World → Prop} (h : Calls P f args w R) : CallsIn (Fr ro) n P f args w R :=
 (callsIn_wide (n := n)).2 h
theorem aLV {ro : Option Nat} {n : Nat} {P : Program} {row : String} {args : Array Value} {w : World} {R : Value → World → Prop} (h : Rows P row args w R) : RowsIn (Fr ro) n P row args w R :=
 fun c cs _ => let ⟨v, w', r, s⟩ := h c cs; ⟨v, w', r, stepsIn_wide.2 s⟩

section
variable {P : Program} {ro : Option Nat} {n : Nat} {ds : List Deferred} {Q Q' : Exit → Act → World → Prop}
def aD1 : Op → Bool
 | .defer _ => true
 | _ => false
def FK (ops : Array Oper) : Bool := ops.toList.all fun o => !aD1 o.op
theorem BR {ops : Array Oper} (h : FK ops = true) {o : Oper} (ho : o ∈ ops.toList) : ∀ c, o.op ≠ .defer c := by
 intro c hc
 have := List.all_eq_true.1 h o ho
 rw [hc] at this
 cases this
theorem aP0 {o : Oper} (h : ∀ c, o.op ≠ .defer c) (ρ : Operand → Value) : o.semAt ro ρ = execOp ρ o := by
 cases ro with
 | none => exact Oper.semAt_none ρ o
 | some l => exact Oper.semAt_some l ρ o h

theorem aCV {o : Oper} {a : Act} {w : World} {K K' : Act → World → Prop} (hd : ∀ c, o.op ≠ .defer c) (hK : ∀ a w, K a w → K' (lI ds a) w) (hQ : ∀ ch a w, Q (.panic ch) a w → Q' (.panic ch) (lI ds a) w) (hno : ∀ a w, ¬ Q .outgrown a w) (h : o.wp P a w K Q) :
  o.wpIn (Fr ro) n P (lI ds a) w K' Q' := by
 refine ⟨fun _ _ => trivial, ?_⟩
 unfold Oper.wp at h
 rw [aMM, aP0 hd]
 generalize (execOp a.eval o).run P w = r at h ⊢
 cases r with
 | ok x w' =>
  cases x with
  | value v => show K' ((lI ds a).put o.dst v) w'; rw [AR]; exact hK _ _ h
  | skip => show K' ((lI ds a).put o.dst undef) w'; rw [AR]; exact hK _ _ h
  | defer d =>
   have := hK _ _ h
   show K' (({ lI ds a with defers := d :: (lI ds a).defers } : Act).put o.dst undef) w'
   have e : (({ lI ds a with defers := d :: (lI ds a).defers } : Act).put o.dst undef) = lI ds (({ a with defers := d :: a.defers } : Act).put o.dst undef) := by
    cases o.dst <;> rfl
   rw [e]; exact this
  | enter f args =>
   refine ⟨fun h => (by cases h), aHK (Calls.mono h ?_)⟩
   rintro e w'' he
   cases e with
   | returned v => show K' ((lI ds a).put o.dst v) w''; rw [AR]; exact hK _ _ he
   | panicked ch => exact hQ _ _ _ he
   | outgrown =>
    obtain ⟨a0, w0, h0⟩ := he
    exact (hno a0 w0 h0).elim
  | row row args => exact ⟨fun h => (by cases h), aLV (Rows.mono h fun v w'' he => by show K' ((lI ds a).put o.dst v) w''; rw [AR]; exact hK _ _ he)⟩
  | _ => exact h.elim
 | halt x w' =>
  cases x <;> first | exact hQ _ _ _ h | exact h.elim

theorem O4 {ops : Array Oper} (hno : ∀ a w, ¬ Q .outgrown a w) (hQ : ∀ e a w, Q e a w → Q' e (lI ds a) w) : ∀ {l : List Oper}, (∀ o ∈ l, ∀ c, o.op ≠ .defer c) → ∀ {a w}, wpList P ops Q l a w → wpListIn (Fr ro) n P ops Q' l (lI ds a) w
 | [], _, a, w, h => hQ _ _ _ h
 | o :: l, hd, a, w, h => by
  simp only [wpList] at h
  unfold wpListIn
  split at h
  ·rename_i hw
   have hw' : Region.wanted o (yielded ops (lI ds a).tmps) = true := hw
   rw [if_pos hw']
   rcases h with h | ⟨_, a0, w0, h0⟩
   ·exact aCV (hd o List.mem_cons_self) (fun a w hk => O4 hno hQ (fun o ho => hd o (List.mem_cons_of_mem _ ho)) hk) (fun _ _ _ h => hQ _ _ _ h) hno h
   ·exact (hno a0 w0 h0).elim
  ·rename_i hw
   have hw' : ¬ Region.wanted o (yielded ops (lI ds a).tmps) = true := hw
   rw [if_neg hw']
   refine ⟨fun _ _ => trivial, ?_⟩
   rw [AR]
   exact O4 hno hQ (fun o ho => hd o (List.mem_cons_of_mem _ ho)) h

theorem aCN {ops : Array Oper} {md : Region.Mode} (hno : ∀ a w, ¬ Q .outgrown a w) (hQ : ∀ e a w, Q e a w → Q' e (lI ds a) w) (hd : ∀ o ∈ ops.toList, ∀ c, o.op ≠ .defer c) : ∀ {fuel : Nat} {listed : Array Bool} {a w}, wpAny P md ops Q fuel listed a w → wpAnyIn (Fr ro) n P md ops Q' fuel listed (lI ds a) w
 | 0, listed, a, w, h => ⟨h.1, hQ _ _ _ h.2⟩
 | fuel + 1, listed, a, w, h => by
  refine ⟨fun hr => hQ _ _ _ (h.1 hr), fun i hi => ?_⟩
  have h2 := h.2 i hi
  unfold wpOp at h2
  unfold wpOpIn
  split
  ·rename_i hn
   rw [hn] at h2
   exact aCN hno hQ hd h2
  ·rename_i o ho
   rw [ho] at h2
   simp only at h2
   have hm : o ∈ ops.toList := by
    rw [← Array.getElem?_toList] at ho
    exact List.mem_of_getElem? ho
   split at h2
   ·rename_i hw
    have hw' : Region.wanted o (yielded ops (lI ds a).tmps) = true := hw
    rw [if_pos hw']
    rcases h2 with h2 | ⟨_, a0, w0, h0⟩
    ·exact aCV (hd o hm) (fun a w hk => aCN hno hQ hd hk) (fun _ _ _ h => hQ _ _ _ h) hno h2
    ·exact (hno a0 w0 h0).elim
   ·rename_i hw
    have hw' : ¬ Region.wanted o (yielded ops (lI ds a).tmps) = true := hw
    rw [if_neg hw']
    refine ⟨fun _ _ => trivial, ?_⟩
    rw [AR]
    exact aCN hno hQ hd h2
end
def Marks (wi w : World) (G : Gd) : List Deferred → Prop
 | [] => True
 | d :: ds => (∃ b, d = { target := .collected b, args := #[] } ∧ w.heap[b]? = some (.deferred (some [])) ∧ wi.heap.size ≤ b ∧ ¬ G b ∧ ∀ d' ∈ ds, d' ≠ d) ∧ Marks wi w G ds
theorem Marks.mem {wi w : World} {G : Gd} : ∀ {ds : List Deferred}, Marks wi w G ds → ∀ d ∈ ds, ∃ b, d = { target := .collected b, args := #[] } ∧ w.heap[b]? = some (.deferred (some [])) ∧ wi.heap.size ≤ b ∧ ¬ G b
 | [], _, d, hd => by cases hd
 | x :: ds, h, d, hd => by
  rcases List.mem_cons.1 hd with rfl | hd
  ·obtain ⟨b, h1, h2, h3, h4, _⟩ := h.1
   exact ⟨b, h1, h2, h3, h4⟩
  ·exact Marks.mem h.2 d hd
theorem Marks.to {wi w w' : World} {G G' : Gd} : ∀ {ds : List Deferred}, Marks wi w G ds → (∀ b, ({ target := .collected b, args := #[] } : Deferred) ∈ ds → w.heap[b]? = some (.deferred (some [])) → ¬ G b → w'.heap[b]? = some (.deferred (some [])) ∧ ¬ G' b) → Marks wi w' G' ds
 | [], _, _ => trivial
 | x :: ds, h, hs => by
  obtain ⟨⟨b, rfl, h2, h3, h4, h5⟩, h6⟩ := h
  obtain ⟨k1, k2⟩ := hs b List.mem_cons_self h2 h4
  exact ⟨⟨b, rfl, k1, h3, k2, h5⟩, Marks.to h6 fun b hb => hs b (List.mem_cons_of_mem _ hb)⟩

def IM (n0 : Nat → Prop) (wi : World) (Gi : Gd) (μi : Mp) (nt : Nat) (F : Frm) (H : Heap) (a : Act) (w : World) : Prop :=
 ∃ G μ, Ext n0 wi Gi μi w G μ ∧ aP n0 G μ H w ∧ dF w G μ nt F { a with defers := [] } ∧ Marks wi w G a.defers

section
variable {P : Program} {E : Env} {n0 n1 : Nat → Prop} {w w' wi : World} {G G' Gi : Gd} {μ μ' μi : Mp} {H : Heap} {F : Frm} {a : Act} {nt : Nat}
theorem Ext.wider (h : Ext n1 w G μ w' G' μ') (hn : ∀ b, n1 b → n0 b) : Ext n0 w G μ w' G' μ' :=
 ⟨h.toMono, h.os, h.tape, h.output, h.size, fun b hb hnb => h.old b hb fun h1 => hnb (hn b h1), fun b hb => (h.new b hb).imp id (hn b)⟩
theorem aP.wider (h : aP n1 G μ H w) (hn : ∀ b, n1 b → n0 b) : aP n0 G μ H w :=
 ⟨fun r k b hr hb => by
  obtain ⟨c, h1, h2, h3, h4, h5⟩ := h.blk r k b hr hb
  exact ⟨c, h1, h2, h3, h4, fun hf => ⟨hn b (h5 hf).1, (h5 hf).2⟩⟩, h.tags, h.inj, h.lt, h.top, fun b hb => hn b (h.base b hb), h.rows.aLK fun _ b _ => hn b⟩
theorem aP.less (h : aP n0 G μ H w) {S : Nat → Prop} (hS : ∀ b, S b → b < w.heap.size ∧ (∀ c t fr, w.heap[b]? ≠ some (.cells c t fr)) ∧ ∀ es clk, w.heap[b]? ≠ some (.map es clk)) : aP (fun b => n0 b ∧ ¬ S b) G μ H w :=
 ⟨fun r k b hr hb => by
  obtain ⟨c, h1, h2, h3, h4, h5⟩ := h.blk r k b hr hb
  exact ⟨c, h1, h2, h3, h4, fun hf => ⟨⟨(h5 hf).1, fun hs => (hS b hs).2.1 _ _ _ h1⟩, (h5 hf).2⟩⟩, h.tags, h.inj, h.lt, h.top, fun b hb => ⟨h.base b hb, fun hs => Nat.lt_irrefl _ (Nat.lt_of_lt_of_le (hS b hs).1 hb)⟩, h.rows.aLK fun j b hj hn => ⟨hn, fun hs => by
   rcases h.rows.cel j b hj with ⟨c, t, fr, hc⟩ | ⟨es, clk, hc⟩
   ·exact (hS b hs).2.1 c t fr hc
   ·exact (hS b hs).2.2 es clk hc⟩⟩
theorem dF.same (h : dF w G μ nt F a) : dF w G μ nt F { a with defers := [] } := ⟨h.size, h.slot, rfl⟩
theorem I.aVR (h : I n0 wi Gi μi nt F H a w) : IM n0 wi Gi μi nt F H a w := by
 obtain ⟨G, μ, e, hW, hF⟩ := h
 refine ⟨G, μ, e, hW, hF.same, ?_⟩
 rw [hF.defers]; trivial


theorem YX {nt : Nat} {id : Nat} {ops : Array Oper} {draw : Bool} {F : Frm} {H : Heap} {α : Type} {z : α} {k : Frm → Heap → Option α} (hcl : bX P (cR P E)) (hP : P.follows .mixedOrders = true) (hd : FK ops = true) (h : rL P E nt ops draw F H k = some z) :
  ∃ F' H', k F' H' = some z ∧ ∀ {ro : Option Nat} {n : Nat} {n0 wi Gi μi} {a w} {Q : Exit → Act → World → Prop}, IM n0 wi Gi μi nt F H a w → (∀ a' w', a'.defers = a.defers → IM n0 wi Gi μi nt F' H' a' w' → Q .normal a' w') → (Code.region id ops draw).wpIn (Fr ro) n P Q a w := by
 have core : ∃ F' H', k F' H' = some z ∧ ∀ {ro : Option Nat} {n : Nat} {n0 wi Gi μi} {a w} {ds : List Deferred} {Q : Exit → Act → World → Prop}, I n0 wi Gi μi nt F H a w → (∀ a' w', I n0 wi Gi μi nt F' H' a' w' → Q .normal (lI ds a') w') → (Code.region id ops draw).wpIn (Fr ro) n P Q (lI ds a) w := by
  cases draw with
  | true =>
   obtain ⟨F', H', h2, h3⟩ := F8 h
   refine ⟨F', H', h3, ?_⟩
   intro ro n n0 wi Gi μi a w ds Q hI hQ
   refine wpIn_region_any hP (aCN (Q := fun e a' w' => e = .normal ∧ I n0 wi Gi μi nt F' H' a' w') (fun a w h => by cases h.1) (fun e a' w' h => by obtain ⟨rfl, h⟩ := h; exact hQ a' w' h) (fun o ho => BR hd ho) ?_)
   exact IE hcl h2 hI (fun a' w' h => ⟨rfl, h⟩)
  | false =>
   unfold rL at h
   simp only [cond_false] at h
   obtain ⟨F', H', h2, h3⟩ := nE h
   refine ⟨F', H', h3, ?_⟩
   intro ro n n0 wi Gi μi a w ds Q hI hQ
   refine wpIn_region_list (O4 (Q := fun e a' w' => e = .normal ∧ I n0 wi Gi μi nt F' H' a' w') (fun a w h => by cases h.1) (fun e a' w' h => by obtain ⟨rfl, h⟩ := h; exact hQ a' w' h) (fun o ho => BR hd ho) ?_)
   exact pY hcl ops.toList F H _ _ h2 hI (fun a' w' h => ⟨rfl, h⟩)
 obtain ⟨F', H', h1, h2⟩ := core
 refine ⟨F', H', h1, ?_⟩
 intro ro n n0 wi Gi μi a w Q hI hQ
 obtain ⟨G, μ, e, hW, hF, hm⟩ := hI
 have hS : ∀ b, ({ target := .collected b, args := #[] } : Deferred) ∈ a.defers → b < w.heap.size ∧ (∀ c t fr, w.heap[b]? ≠ some (.cells c t fr)) ∧ ∀ es clk, w.heap[b]? ≠ some (.map es clk) := by
  intro b hb
  obtain ⟨b', e1, e2, _⟩ := hm.mem _ hb
  have : b = b' := by injection e1 with e1 _; injection e1
  subst this
  exact ⟨cC e2, fun c t fr h => (by rw [e2] at h; cases h), fun _ _ h => (by rw [e2] at h; cases h)⟩
 have e0 : a = lI a.defers { a with defers := [] } := rfl
 rw [e0]
 refine h2 (n0 := fun b => n0 b ∧ ¬ ({ target := .collected b, args := #[] } : Deferred) ∈ a.defers) (wi := w) (Gi := G) (μi := μ) ⟨G, μ, Ext.refl _ _ _ _, hW.less hS, hF⟩ ?_
 rintro a' w' ⟨G', μ', e', hW', hF'⟩
 have hW2 : aP n0 G' μ' H' w' := hW'.wider fun b hb => hb.1
 have hdef : (lI a.defers a').defers = a.defers := by
  show a'.defers ++ a.defers = a.defers
  rw [hF'.defers]; rfl
 refine hQ _ _ hdef ⟨G', μ', e.trans (e'.wider fun b hb => hb.1), hW2, hF'.same, ?_⟩
 rw [hdef]
 refine hm.to fun b hb h1 h2 => ⟨?_, fun hg => ?_⟩
 ·rw [e'.old b (hS b hb).1 (fun h => h.2 hb)]; exact h1
 ·rcases e'.new b hg with h | h
  ·exact h2 h
  ·exact h.2 hb
end
end Go.PM
set_option linter.unusedSimpArgs false
set_option linter.unusedVariables false
namespace Go.PM
open Go Go.RowKit
def DB (T : List Nat) : (l : List (Ex × List (Nat × Kd))) → Ex → Frm → Heap → Option (aT l)
 | [], _, _, _ => none
 | [(e, s)], ex, F, H => bif aG3 e ex then oA T s F H else none
 | (e, s) :: b :: r, ex, F, H => bif aG3 e ex then (match oA T s F H with | some x => some (.inl x) | none => none) else (match DB T (b :: r) ex F H with | some y => some (.inr y) | none => none)
section
variable {α : Type} (P : Program) (E : Env) (nt aQ : Nat) (lt rt : Nat → Option aO) (rd : Bool) (T : List Nat)
def pB : Code → Frm → Heap → (Ex → Frm → Heap → Option α) → Option α
 | .skip, F, H, k => k .normal F H
 | .label _, F, H, k => k .normal F H
 | .region _ ops draw, F, H, k => bif FK ops then rL P E nt ops draw F H fun F H => IN aQ F fun F => k .normal F H else none
 | .seq a b, F, H, k => pB a F H fun ex F H => match ex with
  | .normal => pB b F H k
  | .exit i => k (.exit i) F H
  | .ret => k .ret F H
 | .cond c a b, F, H, k => match ev F c with
  | .lit (.bool t) => aIY F c t fun F t => bif t then pB a F H k else pB b F H k
  | _ => none
 | .block id a, F, H, k => pB a F H fun ex F H => match ex with
  | .exit i => bif Nat.beq i id then k .normal F H else k (.exit i) F H
  | .normal => k .normal F H
  | .ret => k .ret F H
 | .loop a, F, H, k => match lt (aF a) with
  | some s => match oA T s.sh F H with
   | some x => aB (s.run x) fun z => aIA s.exits z k
   | none => none
  | none => none
 | .rangeFunc _ _ _ a, F, H, k => bif rd then none else match rt (aF a) with
  | some s => match oA T s.sh F H with
   | some x => aB (s.run x) fun z => aIA s.exits z k
   | none => none
  | none => none
 | .exit id, F, H, k => k (.exit id) F H
 | .ret, F, H, k => k .ret F H
 | _, _, _, _ => none
def TR (T : List Nat) (sh : List (Nat × Kd)) (exits : List (Ex × List (Nat × Kd))) (ex : Ex) (F : Frm) (H : Heap) : Option (Shape.den sh ⊕ aT exits) := match ex with
 | .normal => match oA T sh F H with
  | some y => some (.inl y)
  | none => none
 | .exit i => match DB T exits (.exit i) F H with
  | some z => some (.inr z)
  | none => none
 | .ret => match DB T exits .ret F H with
  | some z => some (.inr z)
  | none => none
def QJ (a : Code) (sh : List (Nat × Kd)) (exits : List (Ex × List (Nat × Kd))) (x : Shape.den sh) : Option (Shape.den sh ⊕ aT exits) :=
 pB P E nt aQ lt rt rd T a (mV sh x 0) (uC sh x) (TR T sh exits)
end
def bN : Code → List Code
 | .seq a b => bN a ++ bN b
 | .cond _ a b => bN a ++ bN b
 | .block _ a => bN a
 | .loop a => [.loop a]
 | .rangeFunc g ps as1 a => [.rangeFunc g ps as1 a]
 | _ => []

section
variable {α : Type} {P : Program} {E : Env} {nt aQ : Nat} {lt rt : Nat → Option aO} {rd : Bool} {T : List Nat}
def aFM (P : Program) (nt : Nat) (rd : Bool) (T : List Nat) (c : Code) (F : Frm) (H : Heap) (r : Ex × Frm × Heap) : Prop :=
 ∀ (ro : Option Nat) (n : Nat) (n0 : Nat → Prop) (wi : World) (Gi : Gd) (μi : Mp) (a : Act) (w : World), (rd = false → ro = none) → (∀ r, ¬ r ∈ T → μi.loc r = none ∧ μi.len r = none) → IM n0 wi Gi μi nt F H a w →
  c.wpIn (Fr ro) n P (fun e a' w' => e = r.1.to ∧ IM n0 wi Gi μi nt r.2.1 r.2.2 a' w' ∧ (rd = true → a'.defers = a.defers)) a w
def r9 (P : Program) (nt : Nat) (rd : Bool) (T : List Nat) (c : Code) (s : aO) : Prop :=
 ∀ x z, s.run x = some z → aFM P nt rd T c (mV s.sh x 0) (uC s.sh x) (pT s.exits z)
def BG (P : Program) (nt : Nat) (lt rt : Nat → Option aO) (rd : Bool) (T : List Nat) : Code → Prop
 | .loop a => ∀ s, lt (aF a) = some s → r9 P nt rd T (.loop a) s
 | .rangeFunc g ps as1 a => rd = false → ∀ s, rt (aF a) = some s → r9 P nt rd T (.rangeFunc g ps as1 a) s
 | _ => True

theorem IM.aSM {n0 : Nat → Prop} {wi : World} {Gi : Gd} {μi : Mp} {F F' : Frm} {H : Heap} {a : Act} {w : World} (h : IM n0 wi Gi μi nt F H a w) (hF : ∀ t, bV F' t = bV F t ∨ bV F' t = .junk) : IM n0 wi Gi μi nt F' H a w := by
 obtain ⟨G, μ, e, hW, hI, hm⟩ := h
 refine ⟨G, μ, e, hW, ⟨hI.size, fun t => ?_, rfl⟩, hm⟩
 rcases hF t with h1 | h1
 ·rw [h1]; exact hI.slot t
 ·rw [h1, VR]; trivial
theorem IM.same {n0 : Nat → Prop} {wi : World} {Gi : Gd} {μi : Mp} {F F' : Frm} {H H' : Heap} {a : Act} {w : World} (hfl : ∀ r, ¬ r ∈ T → μi.loc r = none ∧ μi.len r = none)
  (hs : ∀ {n0 : Nat → Prop} {wi : World} {Gi : Gd} {μi : Mp} {a : Act}, (∀ r, ¬ r ∈ T → μi.loc r = none ∧ μi.len r = none) → I n0 wi Gi μi nt F H a w → I n0 wi Gi μi nt F' H' a w) (h : IM n0 wi Gi μi nt F H a w) : IM n0 wi Gi μi nt F' H' a w := by
 obtain ⟨G, μ, e, hW, hF, hm⟩ := h
 have hS : ∀ b, ({ target := .collected b, args := #[] } : Deferred) ∈ a.defers → b < w.heap.size ∧ (∀ c t fr, w.heap[b]? ≠ some (.cells c t fr)) ∧ ∀ es clk, w.heap[b]? ≠ some (.map es clk) := by
  intro b hb
  obtain ⟨b', e1, e2, _⟩ := hm.mem _ hb
  have : b = b' := by injection e1 with e1 _; injection e1
  subst this
  exact ⟨cC e2, fun c t fr h => (by rw [e2] at h; cases h), fun _ _ h => (by rw [e2] at h; cases h)⟩
 have e0 : Ext (fun b => n0 b ∧ ¬ ({ target := .collected b, args := #[] } : Deferred) ∈ a.defers) w G μi w G μ := ⟨⟨fun _ h => ⟨h, rfl⟩, e.map, e.len, fun _ _ h => h, fun _ _ h => h⟩, rfl, rfl, rfl, Nat.le_refl _, fun _ _ _ => rfl, fun _ h => .inl h⟩
 obtain ⟨G', μ', e', hW', hF'⟩ := hs (n0 := fun b => n0 b ∧ ¬ ({ target := .collected b, args := #[] } : Deferred) ∈ a.defers) (wi := w) (Gi := G) (μi := μi) (a := { a with defers := [] }) hfl ⟨G, μ, e0, hW.less hS, hF⟩
 refine ⟨G', μ', ?_, hW'.wider fun b hb => hb.1, hF', hm.to fun b hb h1 h2 => ⟨h1, fun hg => ?_⟩⟩
 ·exact {
   good := fun b hb => ⟨(e'.good b (e.good b hb).1).1, (e.good b hb).2⟩
   map := e'.map
   len := e'.len
   room := e.room
   row := fun j b hj => e'.row j b (e.row j b hj)
   os := e.os
   tape := e.tape
   output := e.output
   size := e.size
   old := e.old
   new := fun b hb => by
    rcases e'.new b hb with h | h
    ·exact e.new b h
    ·exact .inr h.1 }
 ·rcases e'.new b hg with h | h
  ·exact h2 h
  ·exact h.2 hb

theorem IM.dec {n0 : Nat → Prop} {wi : World} {Gi : Gd} {μi : Mp} {F : Frm} {H : Heap} {a : Act} {w : World} (hfl : ∀ r, ¬ r ∈ T → μi.loc r = none ∧ μi.len r = none) {sh : List (Nat × Kd)} {x : Shape.den sh} (h : oA T sh F H = some x) (hI : IM n0 wi Gi μi nt F H a w) : IM n0 wi Gi μi nt (mV sh x 0) (uC sh x) a w :=
 hI.same hfl fun hfl hI => tD h hfl hI
theorem xW {ex : Ex} {F : Frm} {H : Heap} : ∀ {l : List (Ex × List (Nat × Kd))} {z : aT l}, DB T l ex F H = some z →
  (pT l z).1 = ex ∧ ∃ sh, ∃ x : Shape.den sh, oA T sh F H = some x ∧ (pT l z).2.1 = mV sh x 0 ∧ (pT l z).2.2 = uC sh x
 | [], z, _ => Empty.elim z
 | [(e, s)], z, h => by
  simp only [DB] at h
  obtain ⟨hb, h⟩ := aI h
  exact ⟨VB hb, s, z, h, rfl, rfl⟩
 | (e, s) :: b :: r, z, h => by
  simp only [DB] at h
  cases hb : aG3 e ex with
  | true =>
   rw [hb] at h
   simp only [cond_true] at h
   split at h
   ·rename_i x hx
    simp only [Option.some.injEq] at h
    subst h
    exact ⟨VB hb, s, x, hx, rfl, rfl⟩
   ·cases h
  | false =>
   rw [hb] at h
   simp only [cond_false] at h
   split at h
   ·rename_i x hx
    simp only [Option.some.injEq] at h
    subst h
    exact xW (l := b :: r) (z := x) hx
   ·cases h
theorem IM.K9 {n0 : Nat → Prop} {wi : World} {Gi : Gd} {μi : Mp} {F : Frm} {H : Heap} {a : Act} {w : World} {ex : Ex} (hfl : ∀ r, ¬ r ∈ T → μi.loc r = none ∧ μi.len r = none) {l : List (Ex × List (Nat × Kd))} {z : aT l} (h : DB T l ex F H = some z) (hI : IM n0 wi Gi μi nt F H a w) :
  (pT l z).1 = ex ∧ IM n0 wi Gi μi nt (pT l z).2.1 (pT l z).2.2 a w := by
 obtain ⟨h1, sh, x, h2, h3, h4⟩ := xW h
 exact ⟨h1, by rw [h3, h4]; exact hI.dec hfl h2⟩

theorem fK (hcl : bX P (cR P E)) (hP : P.follows .mixedOrders = true) : ∀ (c : Code) (F : Frm) (H : Heap) (k : Ex → Frm → Heap → Option α) (z : α), (∀ a ∈ bN c, BG P nt lt rt rd T a) →
  pB P E nt aQ lt rt rd T c F H k = some z → ∃ r : Ex × Frm × Heap, k r.1 r.2.1 r.2.2 = some z ∧ aFM P nt rd T c F H r
 | .skip, F, H, k, z, hl, h => ⟨(.normal, F, H), h, fun _ _ _ _ _ _ _ _ _ _ hI => wpIn_skip ⟨rfl, hI, fun _ => rfl⟩⟩
 | .label l, F, H, k, z, hl, h => ⟨(.normal, F, H), h, fun _ _ _ _ _ _ _ _ _ _ hI => wpIn_label ⟨rfl, hI, fun _ => rfl⟩⟩
 | .region id ops draw, F, H, k, z, hl, h => by
  simp only [pB] at h
  obtain ⟨hd, h⟩ := aI h
  obtain ⟨F1, H1, h1, h2⟩ := YX (id := id) hcl hP hd h
  obtain ⟨F2, h3, h4⟩ := yJ aQ F1 fun F => k .normal F H1
  rw [h3] at h1
  exact ⟨(.normal, F2, H1), h1, fun _ _ _ _ _ _ _ _ _ _ hI => h2 hI fun a' w' hd' hI' => ⟨rfl, hI'.aSM h4, fun _ => hd'⟩⟩
 | .seq x y, F, H, k, z, hl, h => by
  simp only [pB] at h
  obtain ⟨⟨ex, F1, H1⟩, h1, h2⟩ := fK hcl hP x F H _ z (fun a ha => hl a (by simp [bN, ha])) h
  cases ex with
  | normal =>
   obtain ⟨r, h3, h4⟩ := fK hcl hP y F1 H1 k z (fun a ha => hl a (by simp [bN, ha])) h1
   refine ⟨r, h3, fun ro n n0 wi Gi μi a w hro hfl hI => wpIn_seq (wpIn_mono (h2 ro n n0 wi Gi μi a w hro hfl hI) ?_)⟩
   rintro e a' w' ⟨rfl, hI', hd'⟩
   refine wpIn_mono (h4 ro n n0 wi Gi μi a' w' hro hfl hI') ?_
   rintro e a'' w'' ⟨e1, e2, e3⟩
   exact ⟨e1, e2, fun hr => (e3 hr).trans (hd' hr)⟩
  | exit i =>
   refine ⟨(.exit i, F1, H1), h1, fun ro n n0 wi Gi μi a w hro hfl hI => wpIn_seq (wpIn_mono (h2 ro n n0 wi Gi μi a w hro hfl hI) ?_)⟩
   rintro e a' w' ⟨rfl, hI'⟩
   exact ⟨rfl, hI'⟩
  | ret =>
   refine ⟨(.ret, F1, H1), h1, fun ro n n0 wi Gi μi a w hro hfl hI => wpIn_seq (wpIn_mono (h2 ro n n0 wi Gi μi a w hro hfl hI) ?_)⟩
   rintro e a' w' ⟨rfl, hI'⟩
   exact ⟨rfl, hI'⟩
 | .cond c x y, F, H, k, z, hl, h => by
  simp only [pB] at h
  split at h
  ·rename_i t ht
   replace h := DE h ht
   have hc : ∀ {n0 wi Gi μi a w}, IM n0 wi Gi μi nt F H a w → a.eval c = .bool t := fun {n0 wi Gi μi a w} hI => by
    obtain ⟨G, μ, e, hW, hF, _⟩ := hI
    have hc := bK hF c
    rw [ht, VR] at hc
    rw [← hc]
    cases c <;> rfl
   cases t with
   | true =>
    obtain ⟨r, h3, h4⟩ := fK hcl hP x F H k z (fun a ha => hl a (by simp [bN, ha])) h
    exact ⟨r, h3, fun ro n n0 wi Gi μi a w hro hfl hI => wpIn_cond (hc hI) (h4 ro n n0 wi Gi μi a w hro hfl hI)⟩
   | false =>
    obtain ⟨r, h3, h4⟩ := fK hcl hP y F H k z (fun a ha => hl a (by simp [bN, ha])) h
    exact ⟨r, h3, fun ro n n0 wi Gi μi a w hro hfl hI => wpIn_cond (hc hI) (h4 ro n n0 wi Gi μi a w hro hfl hI)⟩
  ·cases h
 | .block id x, F, H, k, z, hl, h => by
  simp only [pB] at h
  obtain ⟨⟨ex, F1, H1⟩, h1, h2⟩ := fK hcl hP x F H _ z (fun a ha => hl a (by simp [bN, ha])) h
  cases ex with
  | normal =>
   refine ⟨(.normal, F1, H1), h1, fun ro n n0 wi Gi μi a w hro hfl hI => wpIn_block (wpIn_mono (h2 ro n n0 wi Gi μi a w hro hfl hI) ?_)⟩
   rintro e a' w' ⟨rfl, hI'⟩
   exact ⟨rfl, hI'⟩
  | ret =>
   refine ⟨(.ret, F1, H1), h1, fun ro n n0 wi Gi μi a w hro hfl hI => wpIn_block (wpIn_mono (h2 ro n n0 wi Gi μi a w hro hfl hI) ?_)⟩
   rintro e a' w' ⟨rfl, hI'⟩
   exact ⟨rfl, hI'⟩
  | exit i =>
   simp only at h1
   cases hi : Nat.beq i id with
   | true =>
    rw [hi] at h1
    have := Nat.eq_of_beq_eq_true hi
    subst this
    refine ⟨(.normal, F1, H1), h1, fun ro n n0 wi Gi μi a w hro hfl hI => wpIn_block (wpIn_mono (h2 ro n n0 wi Gi μi a w hro hfl hI) ?_)⟩
    rintro e a' w' ⟨rfl, hI'⟩
    simp only [Ex.to, Exit.inBlock, if_true]
    exact ⟨trivial, hI'⟩
   | false =>
    rw [hi] at h1
    have hne : ¬ i = id := fun e => by rw [e] at hi; simp at hi
    refine ⟨(.exit i, F1, H1), h1, fun ro n n0 wi Gi μi a w hro hfl hI => wpIn_block (wpIn_mono (h2 ro n n0 wi Gi μi a w hro hfl hI) ?_)⟩
    rintro e a' w' ⟨rfl, hI'⟩
    simp only [Ex.to, Exit.inBlock, hne, if_false]
    exact ⟨trivial, hI'⟩
 | .loop x, F, H, k, z, hl, h => by
  simp only [pB] at h
  split at h
  ·rename_i s hs
   split at h
   ·rename_i x0 hx
    obtain ⟨y, h1, h2⟩ := lX h
    exact ⟨pT s.exits y, yF h2, fun ro n n0 wi Gi μi a w hro hfl hI => hl (.loop x) (by simp [bN]) s hs x0 y h1 ro n n0 wi Gi μi a w hro hfl (hI.dec hfl hx)⟩
   ·cases h
  ·cases h
 | .rangeFunc g ps as1 x, F, H, k, z, hl, h => by
  simp only [pB] at h
  cases hrd : rd with
  | true => rw [hrd] at h; cases h
  | false =>
   rw [hrd] at h
   simp only [cond_false] at h
   split at h
   ·rename_i s hs
    split at h
    ·rename_i x0 hx
     obtain ⟨y, h1, h2⟩ := lX h
     refine ⟨pT s.exits y, yF h2, fun ro n n0 wi Gi μi a w hro hfl hI => ?_⟩
     have := hl (.rangeFunc g ps as1 x) (by simp [bN]) hrd s hs x0 y h1 ro n n0 wi Gi μi a w (by rw [hrd]; exact hro) hfl (hI.dec hfl hx)
     rw [hrd] at this
     exact this
    ·cases h
   ·cases h
 | .exit id, F, H, k, z, hl, h => ⟨(.exit id, F, H), h, fun _ _ _ _ _ _ _ _ _ _ hI => wpIn_exit ⟨rfl, hI, fun _ => rfl⟩⟩
 | .scope x, F, H, k, z, hl, h => by simp only [pB] at h; cases h
 | .ret, F, H, k, z, hl, h => ⟨(.ret, F, H), h, fun _ _ _ _ _ _ _ _ _ _ hI => wpIn_ret ⟨rfl, hI, fun _ => rfl⟩⟩
 | .goto l, F, H, k, z, hl, h => by simp only [pB] at h; cases h
 | .refuse s, F, H, k, z, hl, h => by simp only [pB] at h; cases h

theorem DL {sh : List (Nat × Kd)} {exits : List (Ex × List (Nat × Kd))} {ex : Ex} {F : Frm} {H : Heap} {y : Shape.den sh ⊕ aT exits} (h : TR T sh exits ex F H = some y) :
  (∃ x, y = .inl x ∧ ex = .normal ∧ oA T sh F H = some x) ∨ (∃ z, y = .inr z ∧ ex ≠ .normal ∧ DB T exits ex F H = some z) := by
 cases ex with
 | normal =>
  simp only [TR] at h
  split at h
  ·rename_i x hx
   exact .inl ⟨x, (Option.some.inj h).symm, rfl, hx⟩
  ·cases h
 | exit i =>
  simp only [TR] at h
  split at h
  ·rename_i x hx
   exact .inr ⟨x, (Option.some.inj h).symm, by simp, hx⟩
  ·cases h
 | ret =>
  simp only [TR] at h
  split at h
  ·rename_i x hx
   exact .inr ⟨x, (Option.some.inj h).symm, by simp, hx⟩
  ·cases h

theorem IY (hcl : bX P (cR P E)) (hP : P.follows .mixedOrders = true) {a : Code} {sh : List (Nat × Kd)} {exits : List (Ex × List (Nat × Kd))} {step : Shape.den sh → Option (Shape.den sh ⊕ aT exits)} (L : Nat)
  (hl : ∀ b ∈ bN a, BG P nt lt rt rd T b) (hr : ∀ x, QJ P E nt aQ lt rt rd T a sh exits x = step x) : r9 P nt rd T (.loop a) ⟨sh, exits, bZ step L⟩ := by
 intro x z hz ro n n0 wi Gi μi act w hro hfl hI
 refine wpIn_loop_ghost (fun k a w => (∃ x, bZ step k x = some z ∧ IM n0 wi Gi μi nt (mV sh x 0) (uC sh x) a w) ∧ (rd = true → a.defers = act.defers)) L ⟨⟨x, hz, hI⟩, fun _ => rfl⟩ ?_
 rintro k act1 w ⟨⟨x, hz, hI⟩, hdef⟩
 cases k with
 | zero => cases hz
 | succ k =>
  simp only [bZ] at hz
  split at hz
  ·rename_i y hs
   rw [← hr] at hs
   obtain ⟨⟨ex, F', H'⟩, h1, h2⟩ := fK hcl hP a _ _ _ _ hl hs
   refine wpIn_mono (h2 ro n n0 wi Gi μi act1 w hro hfl hI) ?_
   rintro e a' w' ⟨rfl, hI', hd'⟩
   rcases DL h1 with ⟨y', e1, e2, e3⟩ | ⟨z', e1, _, _⟩
   ·cases e1
    dsimp only at e2
    subst e2
    exact ⟨k, by omega, ⟨y, hz, hI'.dec hfl e3⟩, fun hr => (hd' hr).trans (hdef hr)⟩
   ·cases e1
  ·rename_i y hs
   simp only [Option.some.injEq] at hz
   subst hz
   rw [← hr] at hs
   obtain ⟨⟨ex, F', H'⟩, h1, h2⟩ := fK hcl hP a _ _ _ _ hl hs
   refine wpIn_mono (h2 ro n n0 wi Gi μi act1 w hro hfl hI) ?_
   rintro e a' w' ⟨rfl, hI', hd'⟩
   rcases DL h1 with ⟨y', e1, e2, e3⟩ | ⟨z', e1, e2, e3⟩
   ·cases e1
   ·cases e1
    dsimp only at e2 e3 hI'
    obtain ⟨h3, h5⟩ := hI'.K9 hfl e3
    have h6 : (rd = true → a'.defers = act.defers) := fun hr => (hd' hr).trans (hdef hr)
    cases ex with
    | normal => exact absurd rfl e2
    | exit i => exact ⟨by rw [h3], h5, h6⟩
    | ret => exact ⟨by rw [h3], h5, h6⟩
  ·cases hz
end
end Go.PM
set_option linter.unusedSimpArgs false
set_option linter.unusedVariables false
namespace Go.PM
open Go Go.RowKit
def MG : Kd → Nat → List Nat
 | .own _ _, n | .box _ _, n | .bown _ _ _, n | .bag _ _ _ _ _, n => [n]
 | .win j _, _ => [j]
 | _, _ => []
def qN : List (Nat × Kd) → Nat → List Nat
 | [], _ => []
 | (_, k) :: r, n => MG k n ++ qN r (n + k.pos)
structure Stp (S : Nat → Prop) (B A : World) : Prop where
 aQ : ∀ b, b < B.heap.size → ¬ S b → A.heap[b]? = B.heap[b]?
 room : ∀ b n, Room B b n → Room A b n
 os : A.os = B.os
 tape : A.tape = B.tape
 output : A.output = B.output
 size : B.heap.size ≤ A.heap.size
theorem Stp.refl (S : Nat → Prop) (B : World) : Stp S B B := ⟨fun _ _ _ => rfl, fun _ _ h => h, rfl, rfl, rfl, Nat.le_refl _⟩
theorem Stp.trans {S : Nat → Prop} {A B C : World} (h : Stp S A B) (k : Stp S B C) : Stp S A C :=
 ⟨fun b hb hs => (k.aQ b (Nat.lt_of_lt_of_le hb h.size) hs).trans (h.aQ b hb hs), fun b n hr => k.room b n (h.room b n hr), k.os.trans h.os, k.tape.trans h.tape, k.output.trans h.output, Nat.le_trans h.size k.size⟩

def MD (P : Program) (gf : FuncId) (ts : List Ty) (ks : List Kd) (f : tI ts → Option (List (aJ ks))) : Prop :=
 ∀ x all, f x = some all → ∀ (m l : Nat) (W : World) (G : Nat → Prop) (vs : List Value), Lt W G → VRs W (Gd.of G) aG (EZ ts x) vs →
  ∀ (J Jx : List (aJ ks) → (Nat → Prop) → (Nat → Prop) → World → Prop),
  (∀ pre e post T X B T' X' A us Gx m', all = pre ++ e :: post → J pre T X B → Stp X B A → (∀ b, T' b → (T b ∨ B.heap.size ≤ b) ∧ b < A.heap.size) → (∀ b, X' b → T' b ∧ (X b ∨ B.heap.size ≤ b)) →
   (∀ b, Gx b → (G b ∨ T' b) ∧ ¬ X' b) → VRs A (Gd.of Gx) aG (fQ ks e) us →
   YieldAt Fence.wide m' P l us.toArray A fun en C =>
    ((∀ b, b < A.heap.size → G b ∨ T' b → C.heap[b]? = A.heap[b]?) ∧ (∀ b n, Room A b n → Room C b n) ∧ A.heap.size ≤ C.heap.size) ∧ ((en = .returned (.bool true) ∧ J (pre ++ [e]) T' X' C) ∨ (en = .returned (.bool false) ∧ Jx (pre ++ [e]) T' X' C))) →
  J [] (fun _ => False) (fun _ => False) W →
  CallsIn Fence.wide m P gf ((#[.func (.yield l) #[] #[]] : Array Value) ++ vs.toArray) W fun en C => (∃ v, en = .returned v) ∧ ∃ T X B, Stp X B C ∧ (J all T X B ∨ ∃ pre, Jx pre T X B)

def NB {σ τ ε : Type} (step : σ → ε → Option (σ ⊕ τ)) (fin : σ → Option τ) : List ε → σ → Option τ
 | [], y => fin y
 | e :: es, y => match step y e with
  | some (.inl y') => NB step fin es y'
  | some (.inr z) => some z
  | none => none
def Z9 : List Nat → List PV → Frm → Frm
 | t :: ts, p :: ps, F => Z9 ts ps ((t, p) :: F)
 | _, _, F => F
def aTA (sh : List (Nat × Kd)) (exits : List (Ex × List (Nat × Kd))) (F0 : Frm) (ex : Ex) (_ : Frm) (H : Heap) : Option (Shape.den sh ⊕ aT exits) := TR [] sh exits ex F0 H
def JC (P : Program) (E : Env) (nt aQ : Nat) (lt rt : Nat → Option aO) (ps : List Nat) (assign body : Code) (ks : List Kd) (sh : List (Nat × Kd)) (exits : List (Ex × List (Nat × Kd))) (y : Shape.den sh) (e : aJ ks) : Option (Shape.den sh ⊕ aT exits) :=
 bif Nat.beq ps.length ks.length && ps.all (fun t => Nat.blt t nt) then
  pB P E nt aQ lt rt true (qN sh 0) assign (Z9 ps (fQ ks e) (mV sh y 0)) (uC sh y) fun ex F H => match ex with
   | .normal => pB P E nt aQ lt rt true (qN sh 0) body F H (aTA sh exits (mV sh y 0))
   | _ => none
 else none
def aTP (sh : List (Nat × Kd)) (exits : List (Ex × List (Nat × Kd))) (y : Shape.den sh) : Option (aT exits) := DB [] exits .normal (mV sh y 0) (uC sh y)
def aB1 (sh : List (Nat × Kd)) (exits : List (Ex × List (Nat × Kd))) {ε : Type} (all : Shape.den sh → Option (List ε)) (step : Shape.den sh → ε → Option (Shape.den sh ⊕ aT exits)) (x : Shape.den sh) : Option (aT exits) :=
 match all x with
 | some l => NB step (aTP sh exits) l x
 | none => none
def VZ (gf : FuncId) (ts : List Ty) (sh : List (Nat × Kd)) (g : Operand) (x : Shape.den sh) : Option (tI ts) := bif ts.all Ty.plain then aDO gf ts (ev (mV sh x 0) g) else none

section
variable {P : Program} {n0 : Nat → Prop} {w wi : World} {G Gi : Gd} {μ μi : Mp} {H : Heap} {F : Frm} {a : Act} {nt : Nat}
theorem r7 {l : Nat} {o o' : Obj} (hl : w.heap[l]? = some o) (ho : (∀ c t fr, o ≠ .cells c t fr) ∧ ∀ es clk, o ≠ .map es clk) (hG : ¬ G l) : Mono w G μ (w.putObj l o') G μ :=
 ⟨fun b hb => ⟨hb, World.putObj_heap_other (by rintro rfl; exact hG hb)⟩, fun _ _ h => h, fun _ _ h => h, fun b n ⟨cs, t, fr, h1, h2⟩ => ⟨cs, t, fr, by
  rw [World.putObj_heap_other]
  ·exact h1
  ·rintro rfl
   rw [hl] at h1
   exact ho.1 cs t fr (Option.some.inj h1), h2⟩, fun _ _ h => h⟩
theorem BF (hW : aP n0 G μ H w) {l : Nat} {o o' : Obj} (hl : w.heap[l]? = some o) (ho : (∀ c t fr, o ≠ .cells c t fr) ∧ ∀ es clk, o ≠ .map es clk) (hG : ¬ G l) : aP n0 G μ H (w.putObj l o') := by
 have m := r7 (μ := μ) (o' := o') hl ho hG
 refine ⟨?_, hW.tags, hW.inj, hW.lt.step m.good fun b hb => by rw [World.putObj_size]; exact hW.lt b hb, hW.top, fun b hb => hW.base b (by rw [World.putObj_size] at hb; exact hb), hW.rows.step m.aG (by rw [World.putObj_size]; exact Nat.le_refl _) (fun _ => rfl) (fun j b hj => ⟨?_, id, fun r k h1 h2 h3 => ⟨r, k, h1, h2, h3⟩⟩) (fun r k _ _ h1 _ _ => ⟨k, h1, rfl, rfl, rfl, rfl⟩)⟩
 case refine_2 =>
  rw [World.putObj_heap_other]
  rintro rfl
  rcases hW.rows.cel j _ hj with ⟨c, t, fr, hc⟩ | ⟨es, clk, hc⟩
  ·rw [hl] at hc
   exact ho.1 c t fr (Option.some.inj hc)
  ·rw [hl] at hc
   exact ho.2 es clk (Option.some.inj hc)
 intro r k b hr hb
 obtain ⟨c, h1, h2, h3, h4⟩ := hW.blk r k b hr hb
 have e : (w.putObj l o').heap[b]? = w.heap[b]? := by
  rw [World.putObj_heap_other]
  rintro rfl
  rw [hl] at h1
  exact ho.1 _ _ _ (Option.some.inj h1)
 exact ⟨c, e.trans h1, aN.mono m e 0 _ h2, h3, h4⟩
theorem FU {l : Nat} {o o' : Obj} (hl : w.heap[l]? = some o) (ho : (∀ c t fr, o ≠ .cells c t fr) ∧ ∀ es clk, o ≠ .map es clk) (hG : ¬ G l) (hn : n0 l) : Ext n0 w G μ (w.putObj l o') G μ :=
 {toMono := r7 hl ho hG
  os := rfl
  tape := rfl
  output := rfl
  size := by simp
  old := fun b hb hnb => World.putObj_heap_other (by rintro rfl; exact hnb hn)
  new := fun b hb => .inl hb }

theorem aJX {T X T' Gx G1 : Nat → Prop} {A B : World} (hW : aP (fun b => n0 b ∧ ¬ T b) G μ H B) (hn : ∀ b, T b → n0 b) (hTX : ∀ b, X b → T b) (hGX : ∀ b, G b → ¬ X b) (hG1 : ∀ b, G1 b → G b) (st : Stp X B A) (hT : ∀ b, T' b → (T b ∨ B.heap.size ≤ b) ∧ b < A.heap.size) (hx : ∀ b, Gx b → G1 b ∨ T' b) :
  Ext n0 B G μ A (G.or Gx) μ := {
 good := fun b hb => ⟨.inl hb, st.aQ b (hW.lt b hb) (hGX b hb)⟩
 map := fun _ _ h => h
 len := fun _ _ h => h
 room := st.room
 row := fun _ _ h => h
 os := st.os
 tape := st.tape
 output := st.output
 size := st.size
 old := fun b hb hnb => st.aQ b hb fun hs => hnb (hn b (hTX b hs))
 new := fun b hb => by
  rcases hb with hb | hb
  ·exact .inl hb
  ·rcases hx b hb with h | h
   ·exact .inl (hG1 b h)
   ·rcases (hT b h).1 with h | h
    ·exact .inr (hn b h)
    ·exact .inr (hW.base b h).1 }
theorem aG1 {T X T' Gx G1 : Nat → Prop} {A B : World} (hW : aP (fun b => n0 b ∧ ¬ T b) G μ H B) (hTX : ∀ b, X b → T b) (hGX : ∀ b, G b → ¬ X b) (hG1 : ∀ b, G1 b → G b) (st : Stp X B A) (hT : ∀ b, T' b → (T b ∨ B.heap.size ≤ b) ∧ b < A.heap.size) (hx : ∀ b, Gx b → G1 b ∨ T' b) :
  aP (fun b => n0 b ∧ ¬ T' b) (G.or Gx) μ H A := by
 have m : Mono B G μ A (G.or Gx) μ := ⟨fun b hb => ⟨.inl hb, st.aQ b (hW.lt b hb) (hGX b hb)⟩, fun _ _ h => h, fun _ _ h => h, st.room, fun _ _ h => h⟩
 refine ⟨?_, hW.tags, hW.inj, ?_, hW.top, fun b hb => ⟨(hW.base b (Nat.le_trans st.size hb)).1, fun hs => Nat.lt_irrefl _ (Nat.lt_of_lt_of_le (hT b hs).2 hb)⟩, ?_⟩
 case refine_3 =>
  have nT : ∀ j b, G.row j = some b → ¬ T' b := fun j b hj hs => by
   obtain ⟨a1, a2, _⟩ := hW.rows.sep j b hj
   rcases (hT b hs).1 with h | h
   ·exact a2.2 h
   ·omega
  refine (hW.rows.aLK (n1 := fun b => n0 b ∧ ¬ T' b) fun j b hj hn => ⟨hn.1, nT j b hj⟩).step m.aG st.size (fun _ => rfl) (fun j b hj => ⟨?_, ?_, fun r k h1 h2 h3 => ⟨r, k, h1, h2, h3⟩⟩) (fun r k _ _ h1 _ _ => ⟨k, h1, rfl, rfl, rfl, rfl⟩)
  ·obtain ⟨a1, a2, _⟩ := hW.rows.sep j b hj
   exact st.aQ b a1 fun hx => a2.2 (hTX b hx)
  ·rintro (h | h)
   ·exact h
   ·rcases hx b h with h' | h'
    ·exact hG1 b h'
    ·exact absurd h' (nT j b hj)
 ·intro r k b hr hb
  obtain ⟨c, h1, h2, h3, h4, h5⟩ := hW.blk r k b hr hb
  have hlt := hW.fP hr hb
  have hns : ¬ X b := by
   cases hf : k.frozen with
   | true => exact hGX b (h4 hf)
   | false => exact fun hx => (h5 hf).1.2 (hTX b hx)
  have e := st.aQ b hlt hns
  have nT : k.frozen = false → ¬ T' b := fun hf hs => by
   rcases (hT b hs).1 with h | h
   ·exact (h5 hf).1.2 h
   ·omega
  refine ⟨c, e.trans h1, aN.mono m e 0 _ h2, h3, fun hf => .inl (h4 hf), fun hf => ⟨⟨(h5 hf).1.1, nT hf⟩, ?_⟩⟩
  rintro (h | h)
  ·exact (h5 hf).2 h
  ·rcases hx b h with h' | h'
   ·exact (h5 hf).2 (hG1 b h')
   ·exact nT hf h'
 ·refine hW.lt.step m.good ?_
  rintro b (hb | hb)
  ·exact Nat.lt_of_lt_of_le (hW.lt b hb) st.size
  ·rcases hx b hb with h | h
   ·exact Nat.lt_of_lt_of_le (hW.lt b (hG1 b h)) st.size
   ·exact (hT b h).2

theorem aAO : ∀ {ps : List Nat} {qs : List PV} {us : List Value} {F : Frm} {tmps : Array Value}, ps.length = qs.length → (∀ t ∈ ps, t < nt) → VRs w G μ qs us → dF w G μ nt F { tmps := tmps, defers := [] } →
  dF w G μ nt (Z9 ps qs F) { tmps := (ps.zip us).foldl (fun t (p, v) => t.setIfInBounds p v) tmps, defers := [] }
 | [], [], us, F, tmps, _, _, hv, hF => by
  simp only [Z9, List.zip_nil_left, List.foldl_nil]; exact hF
 | t :: ts, q :: qs, us, F, tmps, hl, hb, hv, hF => by
  rw [VRs] at hv
  obtain ⟨v, vs, rfl, h1, h2⟩ := hv
  simp only [Z9, List.zip_cons_cons, List.foldl_cons]
  exact aAO (by simpa using hl) (fun s hs => hb s (List.mem_cons_of_mem _ hs)) h2 (hF.cons (hb t List.mem_cons_self) h1)
 | [], _ :: _, us, F, tmps, hl, _, _, _ => by simp at hl
 | _ :: _, [], us, F, tmps, hl, _, _, _ => by simp at hl
end
end Go.PM
set_option linter.unusedSimpArgs false
set_option linter.unusedVariables false
namespace Go.PM
open Go Go.RowKit
def rT (μ : Mp) (T : List Nat) : Mp := ⟨fun r => if r ∈ T then μ.loc r else none, fun r => if r ∈ T then μ.len r else none⟩

section
variable {P : Program} {n0 : Nat → Prop} {w w' wi : World} {G G' Gi : Gd} {μ μ' μi : Mp} {H : Heap} {F : Frm} {a : Act} {nt : Nat}
theorem uK {T : List Nat} {r : Nat} (h : r ∈ T) : (rT μ T).loc r = μ.loc r ∧ (rT μ T).len r = μ.len r := by simp [rT, h]
theorem FD {T : List Nat} : ∀ r, ¬ r ∈ T → (rT μ T).loc r = none ∧ (rT μ T).len r = none := fun r h => by simp [rT, h]
theorem NH (T : List Nat) : Ext n0 w G (rT μ T) w G μ := {
 good := fun _ h => ⟨h, rfl⟩
 map := fun r b hr => by
  by_cases h : r ∈ T
  ·rw [(uK h).1] at hr; exact hr
  ·rw [(FD r h).1] at hr; cases hr
 len := fun r b hr => by
  by_cases h : r ∈ T
  ·rw [(uK h).2] at hr; exact hr
  ·rw [(FD r h).2] at hr; cases hr
 room := fun _ _ h => h
 row := fun _ _ h => h
 os := rfl
 tape := rfl
 output := rfl
 size := Nat.le_refl _
 old := fun _ _ _ => rfl
 new := fun _ h => .inl h }
theorem O3 : ∀ (ts : List Ty) (x : tI ts), b8.noRefs (EZ ts x) = true
 | [], _ => rfl
 | t :: r, (x, xs) => by simp only [EZ, b8.noRefs, b8, O3 r xs, Bool.and_self]
theorem aMU {T : List Nat} : ∀ (k : Kd) (x : k.den) (n : Nat) {v : Value}, (∀ r, r ∈ MG k n → r ∈ T) → VR w G μ (nX k x n) v → VR w G (rT μ T) (nX k x n) v
 | .int _, x, n, v, _, h => by simp only [nX] at h ⊢; rw [VR] at h ⊢; exact h
 | .bool, x, n, v, _, h => by simp only [nX] at h ⊢; rw [VR] at h ⊢; exact h
 | .str, x, n, v, _, h => by simp only [nX] at h ⊢; rw [VR] at h ⊢; exact h
 | .list t, x, n, v, _, h => (nZ (nX (.list t) x n) v rfl h).aZ
 | .agg t, x, n, v, _, h => (nZ (nX (.agg t) x n) v (by simp only [nX, b8]; exact uP t x) h).aZ
 | .own e t, x, n, v, hT, h => by
  have := uK (μ := μ) (hT n (by simp [MG]))
  simp only [nX] at h ⊢
  rw [VR] at h ⊢; rw [this.1, this.2]; exact h
 | .box e t, x, n, v, hT, h => by
  have := uK (μ := μ) (hT n (by simp [MG]))
  simp only [nX] at h ⊢
  rw [VR] at h ⊢; rw [this.1]; exact h
 | .bown e et t, x, n, v, hT, h => by
  have := uK (μ := μ) (hT n (by simp [MG]))
  simp only [nX] at h ⊢
  rw [VR] at h ⊢; rw [this.1]; exact h
 | .bag e t1 et t t2, x, n, v, hT, h => by
  have := uK (μ := μ) (hT n (by simp [MG]))
  simp only [nX] at h ⊢
  rw [VR] at h ⊢; rw [this.1]; exact h
 | .ptr t, x, n, v, _, h => (nZ (nX (.ptr t) x n) v rfl h).aZ
 | .fn g, x, n, v, _, h => by simp only [nX] at h ⊢; rw [VR] at h ⊢; exact h
 | .nil0, x, n, v, _, h => by simp only [nX] at h ⊢; rw [VR] at h ⊢; exact h
 | .val, x, n, v, _, h => by simp only [nX] at h ⊢; rw [VR] at h ⊢; exact h
 | .hnd sz, x, n, v, _, h => (nZ (nX (.hnd sz) x n) v rfl h).aZ
 | .mpk j, x, n, v, _, h => (nZ (nX (.mpk j) x n) v rfl h).aZ
 | .ar e t, x, n, v, _, h => by simp only [nX]; rw [VR]; trivial
 | .nilI, x, n, v, _, h => by simp only [nX] at h ⊢; rw [VR] at h ⊢; exact h
 | .clo g ts, x, n, v, _, h => (nZ (nX (.clo g ts) x n) v (by simp only [nX, b8, b8.noRefs, O3 ts x, Bool.and_self]) h).aZ
 | .win j sz, x, n, v, hT, h => by
  have := uK (μ := μ) (hT j (by simp [MG]))
  simp only [nX] at h ⊢
  rw [VR] at h ⊢; rw [this.1, this.2]; exact h
theorem aAI {T : List Nat} : ∀ (sh : List (Nat × Kd)) (x : Shape.den sh) (n : Nat) {t : Nat} {v : Value}, (∀ r, r ∈ qN sh n → r ∈ T) → VR w G μ (bV (mV sh x n) t) v → VR w G (rT μ T) (bV (mV sh x n) t) v
 | [], _, _, t, v, _, h => by simp only [mV, bV]; rw [VR]; trivial
 | (s, k) :: r, (x, xs), n, t, v, hT, h => by
  simp only [mV] at h ⊢
  rw [dD] at h ⊢
  by_cases hs : t = s
  ·rw [if_pos hs] at h ⊢
   exact aMU k x n (fun r hr => hT r (by simp only [qN]; exact List.mem_append_left _ hr)) h
  ·rw [if_neg hs] at h ⊢
   exact aAI r xs (n + k.pos) (fun r hr => hT r (by simp only [qN]; exact List.mem_append_right _ hr)) h

theorem SY (hW : aP n0 G μ H w) (o : Obj) : Ext n0 w G μ (w.alloc o) G μ ∧ aP n0 G μ H (w.alloc o) := by
 have e : Ext n0 w G μ (w.alloc o) G μ := {
  good := fun b hb => ⟨hb, Below.heap_alloc _ _ _ (hW.lt b hb)⟩
  map := fun _ _ h => h
  len := fun _ _ h => h
  room := fun b n hc => by
   obtain ⟨cs, t, fr, h1, h2⟩ := hc
   exact ⟨cs, t, fr, by rw [Below.heap_alloc _ _ _ (cC h1)]; exact h1, h2⟩
  row := fun _ _ h => h
  os := rfl
  tape := rfl
  output := rfl
  size := by simp
  old := fun b hb _ => Below.heap_alloc _ _ _ hb
  new := fun b hb => .inl hb }
 exact ⟨e, hW.aQ e ⟨fun _ => rfl, fun j b hj => ⟨Below.heap_alloc _ _ _ (hW.rows.sep j b hj).1, id⟩⟩ (fun r k b hr hb => ⟨Below.heap_alloc _ _ _ (hW.fP hr hb), id⟩) fun b hb => Nat.lt_of_lt_of_le (hW.lt b hb) e.size⟩
theorem Ext.plain (h : Ext n0 w G μ w' G' μ') : Ext n0 w G aG w' G' aG :=
 {good := h.good, map := fun _ _ h => (by cases h), len := fun _ _ h => (by cases h), room := h.room, row := h.row, os := h.os, tape := h.tape, output := h.output, size := h.size, old := h.old, new := h.new }
theorem Ext.back (hfl : ∀ r, μi.loc r = none ∧ μi.len r = none) (h : Ext n0 w G aG w' G' aG) : Ext n0 w G μi w' G' μ' :=
 {good := h.good, map := fun r b hr => (by rw [(hfl r).1] at hr; cases hr), len := fun r b hr => (by rw [(hfl r).2] at hr; cases hr), room := h.room, row := h.row, os := h.os, tape := h.tape, output := h.output, size := h.size, old := h.old, new := h.new }

def Ex.code : Ex → Code
 | .normal => .skip
 | .ret => .ret
 | .exit i => .exit i

structure Btw (n0 : Nat → Prop) (wi : World) (Gi : Gd) (μi : Mp) (nt : Nat) (a : Act) (G0 : Gd) (N L D : Nat) (F : Frm) (H : Heap) (T X : Nat → Prop) (B : World) (rec : Obj) (G : Gd) (μ : Mp) : Prop where
 ext : Ext n0 wi Gi μi B G μ
 winv : aP (fun b => n0 b ∧ ¬ T b) G μ H B
 finv : dF B G μ nt F { a with defers := [] }
 base : ∀ b, G0 b → G b
 good : ∀ b, G b → ¬ X b
 sub : ∀ b, X b → T b
 seq : ∀ b, T b → n0 b ∧ N ≤ b
 size : N ≤ B.heap.size
 notL : ¬ G L
 notD : ¬ G D
 atL : B.heap[L]? = some rec
 atD : B.heap[D]? = some (.deferred (some []))
 marks : Marks wi B G a.defers

theorem aM0 {gf : FuncId} {ts : List Ty} {c : tI ts} {v : Value} (h : VR w G aG (.clo (.func gf) [] (EZ ts c)) v) : ∃ cs : Array Value, v = .func (.func gf) #[] cs ∧ VRs w G aG (EZ ts c) cs.toList := by
 rw [VR] at h
 obtain ⟨fs, cs, h1, h2, h3⟩ := h
 rw [VRs] at h2
 have : fs = #[] := by
  apply Array.ext'
  simpa using h2
 subst this
 exact ⟨cs, h1, h3⟩
theorem I1 : ∀ (l : List Kd) (x : aJ l), (fQ l x).length = l.length
 | [], _ => rfl
 | k :: r, (x, xs) => by simp only [fQ, List.length_cons, I1 r xs]

set_option maxHeartbeats 2000000 in
theorem aP5 {E : Env} {aQ : Nat} {lt rt : Nat → Option aO} (hcl : bX P (cR P E)) (hP : P.follows .mixedOrders = true) {g : Operand} {ps : Array Tmp} {as1 body : Code} {gf : FuncId} {ts : List Ty} {ks : List Kd} {f : tI ts → Option (List (aJ ks))}
  (hit : MD P gf ts ks f) (hgf : ∀ args w, (callFunc gf args).run P w = .ok (.enter gf args) w)
  {sh : List (Nat × Kd)} {exits : List (Ex × List (Nat × Kd))} {step : Shape.den sh → aJ ks → Option (Shape.den sh ⊕ aT exits)} {all : Shape.den sh → Option (List (aJ ks))}
  (has : ∀ b ∈ bN as1, BG P nt lt rt true (qN sh 0) b) (hbd : ∀ b ∈ bN body, BG P nt lt rt true (qN sh 0) b)
  (hsq : ∀ x l, all x = some l → ∃ c, VZ gf ts sh g x = some c ∧ f c = some l)
  (hr : ∀ y e, JC P E nt aQ lt rt ps.toList as1 body ks sh exits y e = step y e) :
  r9 P nt false [] (.rangeFunc g ps as1 body) ⟨sh, exits, aB1 sh exits all step⟩ := by
 intro x z hz ro n n0 wi Gi μi a w hro hfl0 hI
 have hfl : ∀ r, μi.loc r = none ∧ μi.len r = none := fun r => hfl0 r (by simp)
 have hro := hro rfl
 subst hro
 show (Code.rangeFunc g ps as1 body).wpIn Fence.wide n P _ a w
 dsimp only at hz hI ⊢
 unfold aB1 at hz
 obtain ⟨lst, hall⟩ : ∃ lst, all x = some lst := by
  cases h : all x with
  | none => rw [h] at hz; cases hz
  | some l => exact ⟨l, rfl⟩
 rw [hall] at hz
 dsimp only at hz
 obtain ⟨c, hc1, hc2⟩ := hsq x lst hall
 obtain ⟨G, μ, e, hW, hF, hm⟩ := hI
 have hgv : VR w G μ (ev (mV sh x 0) g) (a.eval g) := by
  have := bK hF g
  have e1 : ({ a with defers := [] } : Act).eval g = a.eval g := by cases g <;> rfl
  rwa [e1] at this
 obtain ⟨hpl0, hc1⟩ := aI hc1
 obtain ⟨lb, hg, hvs⟩ := aM0 (E6 hc1 hgv)
 refine wpIn_rangeFunc ?_
 intro fn _
 obtain ⟨rec, hrec⟩ : ∃ rec : LoopState → Option Code → Loop, rec = fun st pe => { state := st, pending := pe, fn, tmps := a.tmps, params := ps, assign := as1, body, defers := w.heap.size } := ⟨_, rfl⟩
 obtain ⟨W1, hW1⟩ : ∃ W1, (w.alloc (.deferred (some []))).alloc (.loop (rec .ready none)) = W1 := ⟨_, rfl⟩
 obtain ⟨L, hLe⟩ : ∃ L, w.heap.size + 1 = L := ⟨_, rfl⟩
 obtain ⟨D, hDe⟩ : ∃ D, w.heap.size = D := ⟨_, rfl⟩
 have hs1 : W1.heap.size = w.heap.size + 2 := by rw [← hW1]; simp
 have hL1 : W1.heap[L]? = some (.loop (rec .ready none)) := by
  rw [← hW1, ← hLe]; have := World.alloc_heap_new (w.alloc (.deferred (some []))) (.loop (rec .ready none)); rwa [World.size_alloc] at this
 have hD1 : W1.heap[D]? = some (.deferred (some [])) := by
  rw [← hW1, ← hDe]; exact (Below.heap_alloc _ _ _ (by simp)).trans (World.alloc_heap_new w _)
 obtain ⟨a1, a2⟩ := SY (n0 := n0) hW (.deferred (some []))
 obtain ⟨b1, b2⟩ := SY (n0 := n0) a2 (.loop (rec .ready none))
 rw [hW1] at b1 b2
 have eW1 : Ext n0 wi Gi μi W1 G μ := (e.trans a1).trans b1
 have hvs1 : VRs W1 G aG (EZ ts c) lb.toList := VRs.mono (a1.toMono.trans b1.toMono).aG _ _ hvs
 have hGL : ¬ G L := fun h => by have := hW.lt L h; omega
 have hGD : ¬ G D := fun h => by have := hW.lt D h; omega
 have hn0L : n0 L := hW.base L (by omega)
 have hn0D : n0 D := hW.base D (by omega)
 have marks1 : Marks wi W1 G a.defers := hm.to fun b hb h1 h2 => ⟨by rw [← hW1, Below.heap_alloc _ _ _ (by have := cC h1; simp; omega), Below.heap_alloc _ _ _ (cC h1)]; exact h1, h2⟩
 have markN : ∀ b, ({ target := .collected b, args := #[] } : Deferred) ∈ a.defers → b < w.heap.size := by
  intro b hb
  obtain ⟨b', e1, e2, _⟩ := hm.mem _ hb
  have : b = b' := by injection e1 with e1 _; injection e1
  subst this
  exact cC e2
 -- the states between the rounds
 let J : List (aJ ks) → (Nat → Prop) → (Nat → Prop) → World → Prop := fun pre T X B => ∃ y, NB step (aTP sh exits) (lst.drop pre.length) y = some z ∧ ∃ G' μ', Btw n0 wi Gi μi nt a G W1.heap.size L D (mV sh y 0) (uC sh y) T X B (.loop (rec .ready none)) G' μ'
 let Jx : List (aJ ks) → (Nat → Prop) → (Nat → Prop) → World → Prop := fun pre T X B => (pT exits z).1 ≠ .normal ∧ ∃ G' μ', Btw n0 wi Gi μi nt a G W1.heap.size L D (pT exits z).2.1 (pT exits z).2.2 T X B (.loop (rec .done (some (pT exits z).1.code))) G' μ'
 refine ⟨L, [{ target := .collected D, args := #[] }], W1, { target := .fn (.func gf) lb, args := #[.func (.yield L) #[] #[]] }, W1, gf, #[.func (.yield L) #[] #[]] ++ lb, W1, ?_, ?_, fun _ _ => trivial, ?_, fun h => (by cases h), ?_⟩
 ·rw [← hW1, hrec, ← hLe, ← hDe]; exact run_enterLoop_outer _ _ _ _ _
 ·simp only [resolve, hg]
  simp [go_sem]
 ·simp [invoke, go_sem, hgf]
 ·have hcall := hit c lst hc2 (n - 1) L W1 G.ok lb.toList b2.lt (jI (G := G) (G' := Gd.of G.ok) (fun b h => h) _ _ _ (MX ts c hpl0) hvs1) J Jx ?round ?start
  ·rw [Array.toArray_toList] at hcall
   refine hcall.mono ?_
   rintro en C ⟨⟨v, rfl⟩, T, X, B, st, hJ⟩
   have hstep : ∀ {F' : Frm} {H' : Heap} {st' : LoopState} {pe : Option Code} {G' : Gd} {μ' : Mp}, Btw n0 wi Gi μi nt a G W1.heap.size L D F' H' T X B (.loop (rec st' pe)) G' μ' →
     C.heap[L]? = some (.loop (rec st' pe)) ∧ ∀ o, IM n0 wi Gi μi nt F' H' { a with defers := { target := .collected D, args := #[] } :: a.defers } (C.putObj L o) := by
    intro F' H' st' pe G' μ' bt
    have nS : ∀ b, b < W1.heap.size → ¬ X b := fun b hb hs => Nat.lt_irrefl _ (Nat.lt_of_lt_of_le hb (bt.seq b (bt.sub b hs)).2)
    have hLC : C.heap[L]? = some (.loop (rec st' pe)) := (st.aQ L (cC bt.atL) (nS L (by omega))).trans bt.atL
    have hDC : C.heap[D]? = some (.deferred (some [])) := (st.aQ D (cC bt.atD) (nS D (by omega))).trans bt.atD
    refine ⟨hLC, fun o => ?_⟩
    have x1 := aJX (T' := fun _ => False) (Gx := fun _ => False) bt.winv (fun b hb => (bt.seq b hb).1) bt.sub bt.good bt.base st (fun b hb => hb.elim) (fun b hb => hb.elim)
    have x2 := (aG1 (T' := fun _ => False) (Gx := fun _ => False) bt.winv bt.sub bt.good bt.base st (fun b hb => hb.elim) (fun b hb => hb.elim)).wider (n0 := n0) fun b hb => hb.1
    have nL : ¬ (G' L ∨ False) := fun h => h.elim bt.notL id
    have nD : ¬ (G' D ∨ False) := fun h => h.elim bt.notD id
    have x3 := BF (o' := o) x2 hLC ⟨fun _ _ _ h => (by cases h), fun _ _ h => (by cases h)⟩ nL
    have x4 := FU (G := G'.or fun _ => False) (n0 := n0) (μ := μ') (o' := o) hLC ⟨fun _ _ _ h => (by cases h), fun _ _ h => (by cases h)⟩ nL hn0L
    refine ⟨G'.or fun _ => False, μ', (bt.ext.trans x1).trans x4, x3, bt.finv.mono (x1.toMono.trans x4.toMono), ⟨D, rfl, ?_, ?_, nD, ?_⟩, ?_⟩
    ·rw [World.putObj_heap_other (by omega)]; exact hDC
    ·have := e.size; omega
    ·intro d' hd' he
     subst he
     have := markN _ hd'
     omega
    ·refine bt.marks.to fun b hb h1 h2 => ⟨?_, fun h => h.elim h2 id⟩
     have hbw := markN b hb
     rw [World.putObj_heap_other (by omega), st.aQ b (cC h1) (nS b (by omega))]
     exact h1
   rcases hJ with ⟨y, hy, G', μ', bt⟩ | ⟨pre, hne, G', μ', bt⟩
   ·obtain ⟨h1, h2⟩ := hstep bt
    rw [List.drop_length] at hy
    simp only [NB] at hy
    have hel := run_endLoop (P := P) h1 (by rw [hrec]; simp)
    have k := fun o => (h2 o).K9 hfl0 hy
    have hpn : (rec .ready none).pending = none := by rw [hrec]
    rw [hpn] at hel
    exact ⟨none, _, hel, by rw [(k (.deferred none)).1]; rfl, (k _).2, fun h => by cases h⟩
   ·obtain ⟨h1, h2⟩ := hstep bt
    have hel := run_endLoop (P := P) h1 (by rw [hrec]; simp)
    have hpn : (rec .done (some (pT exits z).1.code)).pending = some (pT exits z).1.code := by rw [hrec]
    rw [hpn] at hel
    refine ⟨some (pT exits z).1.code, _, hel, ?_⟩
    dsimp only
    clear hel hpn h1 bt
    generalize pT exits z = zz at hne h2 ⊢
    obtain ⟨ex, F', H'⟩ := zz
    cases ex with
    | normal => exact absurd rfl hne
    | ret => exact wpIn_ret ⟨rfl, h2 _, fun h => by cases h⟩
    | exit i => exact wpIn_exit ⟨rfl, h2 _, fun h => by cases h⟩
  case start =>
   refine ⟨x, by simpa using hz, G, μ, eW1, b2.wider fun b hb => ⟨hb, id⟩, hF.mono (a1.toMono.trans b1.toMono), fun b h => h, fun b _ h => h, fun b h => h.elim, fun b h => h.elim, Nat.le_refl _, hGL, hGD, hL1, hD1, marks1⟩
  case round =>
   rintro pre el post T X B T' X' A us Gx m' hlst ⟨y, hy, G', μ', bt⟩ st hT' hX' hGx hus
   have hdrop : lst.drop pre.length = el :: post := by rw [hlst]; simp
   have hdrop2 : lst.drop (pre ++ [el]).length = post := by rw [hlst]; simp
   rw [hdrop] at hy
   simp only [NB] at hy
   obtain ⟨v, hv⟩ : ∃ v, step y el = some v := by
    cases h : step y el with
    | none => rw [h] at hy; cases hy
    | some v => exact ⟨v, rfl⟩
   have hrg := hr y el
   rw [hv] at hrg
   unfold JC at hrg
   obtain ⟨hck, hrg⟩ := aI hrg
   simp only [Bool.and_eq_true, List.all_eq_true] at hck
   have hpl := Nat.eq_of_beq_eq_true hck.1
   have hpt : ∀ t ∈ ps.toList, t < nt := fun t ht => cM (hck.2 t ht)
   -- the world in which the element comes
   have nT : ∀ b, b < W1.heap.size → ¬ T b := fun b hb hs => Nat.lt_irrefl _ (Nat.lt_of_lt_of_le hb (bt.seq b hs).2)
   have nS : ∀ b, b < W1.heap.size → ¬ X b := fun b hb hs => nT b hb (bt.sub b hs)
   have hLB := cC bt.atL
   have hDB := cC bt.atD
   have hLA : A.heap[L]? = some (.loop (rec .ready none)) := (st.aQ L hLB (nS L (by omega))).trans bt.atL
   have hDA : A.heap[D]? = some (.deferred (some [])) := (st.aQ D hDB (nS D (by omega))).trans bt.atD
   have x1 := aJX bt.winv (fun b hb => (bt.seq b hb).1) bt.sub bt.good bt.base st hT' (fun b hb => (hGx b hb).1)
   have x2 := aG1 bt.winv bt.sub bt.good bt.base st hT' (fun b hb => (hGx b hb).1)
   have nS' : ∀ b, b < B.heap.size → ¬ T b → ¬ T' b := by
    intro b hb hs h
    rcases (hT' b h).1 with h' | h'
    ·exact hs h'
    ·omega
   have nG2 : ∀ b, b < B.heap.size → ¬ T b → ¬ G' b → ¬ (G' b ∨ Gx b) := by
    rintro b hb ht hg (h | h)
    ·exact hg h
    ·rcases (hGx b h).1 with h' | h'
     ·exact hg (bt.base b h')
     ·exact nS' b hb ht h'
   have nL2 := nG2 L hLB (nT L (by omega)) bt.notL
   have nD2 := nG2 D hDB (nT D (by omega)) bt.notD
   have marksA : Marks wi A (G'.or Gx) a.defers := bt.marks.to fun b hb h1 h2 => ⟨by rw [st.aQ b (cC h1) (nS b (by have := markN b hb; omega))]; exact h1, nG2 b (cC h1) (nT b (by have := markN b hb; omega)) h2⟩
   obtain ⟨G2, hG2⟩ : ∃ G2, G2 = G'.or Gx := ⟨_, rfl⟩
   rw [← hG2] at x1 x2 marksA
   have nL2 : ¬ G2 L := by rw [hG2]; exact nL2
   have nD2 : ¬ G2 D := by rw [hG2]; exact nD2
   have hxS : ∀ b, (b = L ∨ b = D ∨ ({ target := .collected b, args := #[] } : Deferred) ∈ a.defers) → b < A.heap.size ∧ (∀ c t fr, A.heap[b]? ≠ some (.cells c t fr)) ∧ ∀ es clk, A.heap[b]? ≠ some (.map es clk) := by
    rintro b (rfl | rfl | hb)
    ·exact ⟨cC hLA, fun c t fr h => (by rw [hLA] at h; cases h), fun _ _ h => (by rw [hLA] at h; cases h)⟩
    ·exact ⟨cC hDA, fun c t fr h => (by rw [hDA] at h; cases h), fun _ _ h => (by rw [hDA] at h; cases h)⟩
    ·obtain ⟨b', e1, e2, _⟩ := marksA.mem _ hb
     have : b = b' := by injection e1 with e1 _; injection e1
     subst this
     exact ⟨cC e2, fun c t fr h => (by rw [e2] at h; cases h), fun _ _ h => (by rw [e2] at h; cases h)⟩
   have x3 := x2.less hxS
   obtain ⟨n1, hn1⟩ : ∃ n1 : Nat → Prop, n1 = fun b => (n0 b ∧ ¬ T' b) ∧ ¬ (b = L ∨ b = D ∨ ({ target := .collected b, args := #[] } : Deferred) ∈ a.defers) := ⟨_, rfl⟩
   rw [← hn1] at x3
   have n1n0 : ∀ b, n1 b → n0 b := fun b h => by rw [hn1] at h; exact h.1.1
   have n1S : ∀ b, n1 b → ¬ T' b := fun b h => by rw [hn1] at h; exact h.1.2
   have n1L : ¬ n1 L := fun h => by rw [hn1] at h; exact h.2 (.inl rfl)
   have n1D : ¬ n1 D := fun h => by rw [hn1] at h; exact h.2 (.inr (.inl rfl))
   have n1M : ∀ b, ({ target := .collected b, args := #[] } : Deferred) ∈ a.defers → ¬ n1 b := fun b hb h => by rw [hn1] at h; exact h.2 (.inr (.inr hb))
   have hFA : dF A G2 μ' nt (mV sh y 0) { a with defers := [] } := bt.finv.mono x1.toMono
   have husA : VRs A G2 μ' (fQ ks el) us := VRs.mono (⟨fun b hb => ⟨by rw [hG2]; exact .inr hb, rfl⟩, fun _ _ h => (by cases h), fun _ _ h => (by cases h), fun _ _ h => h, fun _ _ h => (by cases h)⟩ : Mono A (Gd.of Gx) aG A G2 μ') _ _ hus
   have hlen : us.length = ps.size := by
    rw [← husA.length, I1, ← hpl, Array.length_toList]
   have hyield := run_yield (P := P) (args := us.toArray) hLA (by rw [hrec]; simpa using hlen)
   have hfold : (ps.zip us.toArray).foldl (fun tmps (t, a) => tmps.setIfInBounds t a) a.tmps = (ps.toList.zip us).foldl (fun t (p, v) => t.setIfInBounds p v) a.tmps := by
    rw [← Array.foldl_toList, Array.toList_zip]
   rw [hrec] at hyield
   dsimp only at hyield
   rw [hfold] at hyield
   refine ⟨fn, _, as1, body, hyield, roundIn_of_wpIn trivial ?_⟩
   -- the assignment
   have hI0 : IM n1 A G2 (rT μ' (qN sh 0)) nt (Z9 ps.toList (fQ ks el) (mV sh y 0)) (uC sh y) { tmps := (ps.toList.zip us).foldl (fun t (p, v) => t.setIfInBounds p v) a.tmps, defers := [] } A :=
    ⟨G2, μ', NH _, x3, aAO (by rw [I1]; exact hpl) hpt husA hFA, trivial⟩
   obtain ⟨⟨ex1, F1, H1⟩, hk1, hrun1⟩ := fK hcl hP as1 _ _ _ _ has hrg
   dsimp only at hk1
   cases ex1 with
   | ret => cases hk1
   | exit i => cases hk1
   | normal =>
   dsimp only at hk1
   obtain ⟨⟨ex2, F2, H2⟩, hk2, hrun2⟩ := fK hcl hP body _ _ _ _ hbd hk1
   show as1.wpIn (Fr (some L)) m' P _ _ A
   refine wpIn_mono (hrun1 (some L) m' n1 A G2 _ _ A (fun h => by cases h) (fun r h => FD r h) hI0) ?_
   rintro e1 act1 A1 ⟨rfl, ⟨G3, μ3, y1, y2, y3, y4⟩, hd1⟩
   have hd1 : act1.defers = [] := hd1 rfl
   have nL3 : ¬ G3 L := fun h => (y1.new L h).elim nL2 n1L
   have hL1' : A1.heap[L]? = some (.loop (rec .ready none)) := (y1.old L (cC hLA) n1L).trans hLA
   refine ⟨_, run_beginRound hL1' (by rw [hrec]), ?_⟩
   obtain ⟨A2, hA2⟩ : ∃ A2, A1.putObj L (.loop { rec .ready none with state := .busy }) = A2 := ⟨_, rfl⟩
   rw [hA2]
   have p1 : Mono A1 G3 μ3 A2 G3 μ3 := by rw [← hA2]; exact r7 hL1' ⟨fun _ _ _ h => (by cases h), fun _ _ h => (by cases h)⟩ nL3
   have p2 : aP n1 G3 μ3 H1 A2 := by rw [← hA2]; exact BF y2 hL1' ⟨fun _ _ _ h => (by cases h), fun _ _ h => (by cases h)⟩ nL3
   have hL2' : A2.heap[L]? = some (.loop { rec .ready none with state := .busy }) := by rw [← hA2]; exact World.putObj_heap_same (cC hL1')
   have e12 : Ext n0 A1 G3 μ3 A2 G3 μ3 := by rw [← hA2]; exact FU hL1' ⟨fun _ _ _ h => (by cases h), fun _ _ h => (by cases h)⟩ nL3 hn0L
   have hI2 : IM n1 A2 G3 (rT μ' (qN sh 0)) nt F1 H1 act1 A2 :=
    ⟨G3, μ3, { NH (n0 := n1) (w := A2) (G := G3) (μ := μ') [] with
     map := y1.map
     len := y1.len
     good := fun b hb => ⟨hb, rfl⟩
     room := fun _ _ h => h
     new := fun b hb => .inl hb }, p2, y3.mono p1, by rw [hd1]; trivial⟩
   show body.wpIn (Fr (some L)) m' P _ act1 A2
   refine wpIn_mono (hrun2 (some L) m' n1 A2 G3 _ act1 A2 (fun h => by cases h) (fun r h => FD r h) hI2) ?_
   rintro e2 act2 A3 ⟨rfl, ⟨G4, μ4, z1, z2, z3, z4⟩, hd2⟩
   have nL4 : ¬ G4 L := fun h => (z1.new L h).elim nL3 n1L
   have hL3' : A3.heap[L]? = some (.loop { rec .ready none with state := .busy }) := (z1.old L (cC hL2') n1L).trans hL2'
   have hdn : act2.defers = [] := (hd2 rfl).trans hd1
   -- back with the caller
   have hFend : dF A3 G4 μ4 nt (mV sh y 0) { a with defers := [] } := by
    refine ⟨hFA.size, fun t => ?_, rfl⟩
    have v0 := aAI (T := qN sh 0) sh y 0 (fun r h => h) (hFA.slot t)
    have v1 := VR.mono (⟨y1.good, fun _ _ h => h, fun _ _ h => h, y1.room, y1.row⟩ : Mono A G2 (rT μ' (qN sh 0)) A1 G3 (rT μ' (qN sh 0))) _ _ v0
    have v2 := VR.mono (⟨p1.good, fun _ _ h => h, fun _ _ h => h, p1.room, p1.row⟩ : Mono A1 G3 (rT μ' (qN sh 0)) A2 G3 (rT μ' (qN sh 0))) _ _ v1
    exact VR.mono z1.toMono _ _ v2
   have back : ∀ (o : Obj) (F5 : Frm) (H5 : Heap), (∀ {n0 : Nat → Prop} {wi : World} {Gi : Gd} {μi : Mp} {a : Act} {w : World}, (∀ r, ¬ r ∈ ([] : List Nat) → μi.loc r = none ∧ μi.len r = none) → IM n0 wi Gi μi nt (mV sh y 0) H2 a w → IM n0 wi Gi μi nt F5 H5 a w) →
     ∃ G5 μ5, Btw n0 wi Gi μi nt a G W1.heap.size L D F5 H5 T' X' (A3.putObj L o) o G5 μ5 := by
    intro o F5 H5 hdec
    have q1 := BF (o' := o) z2 hL3' ⟨fun _ _ _ h => (by cases h), fun _ _ h => (by cases h)⟩ nL4
    have q2 := r7 (μ := μ4) (o' := o) hL3' ⟨fun _ _ _ h => (by cases h), fun _ _ h => (by cases h)⟩ nL4
    have q3 := FU (n0 := n0) (μ := μ4) (o' := o) hL3' ⟨fun _ _ _ h => (by cases h), fun _ _ h => (by cases h)⟩ nL4 hn0L
    have hIe : IM n1 (A3.putObj L o) G4 aG nt (mV sh y 0) H2 { a with defers := [] } (A3.putObj L o) :=
     ⟨G4, μ4, { NH (n0 := n1) (w := A3.putObj L o) (G := G4) (μ := μ4) [] with
      map := fun _ _ h => by cases h
      len := fun _ _ h => by cases h
      good := fun b hb => ⟨hb, rfl⟩
      room := fun _ _ h => h
      new := fun b hb => .inl hb }, q1, hFend.mono q2, trivial⟩
    obtain ⟨G5, μ5, r1, r2, r3, _⟩ := hdec (fun _ _ => ⟨rfl, rfl⟩) hIe
    have g45 : ∀ b, G5 b → G2 b ∨ n1 b := fun b h => by
     rcases r1.new b h with h | h
     ·rcases z1.new b h with h | h
      ·exact y1.new b h
      ·exact .inr h
     ·exact .inr h
    have mk : ∀ b, ({ target := .collected b, args := #[] } : Deferred) ∈ a.defers → A.heap[b]? = some (.deferred (some [])) → (A3.putObj L o).heap[b]? = some (.deferred (some [])) := by
     intro b hb h1
     have hbw := markN b hb
     have k1 := (y1.old b (cC h1) (n1M b hb)).trans h1
     have k2 : A2.heap[b]? = some (.deferred (some [])) := by rw [← hA2, World.putObj_heap_other (by omega)]; exact k1
     have k3 := (z1.old b (cC k2) (n1M b hb)).trans k2
     rw [World.putObj_heap_other (by omega)]; exact k3
    refine ⟨G5, μ5, ?_, r2.wider fun b hb => ⟨n1n0 b hb, n1S b hb⟩, r3, ?_, ?_, ?_, ?_, ?_, ?_, ?_, ?_, ?_, ?_⟩
    ·have t1 := ((bt.ext.plain.trans x1.plain).trans (y1.wider n1n0).plain).trans e12.plain
     exact Ext.back hfl (((t1.trans (z1.wider n1n0).plain).trans q3.plain).trans (r1.wider n1n0).plain)
    ·intro b hb
     have h2 : G2 b := by rw [hG2]; exact .inl (bt.base b hb)
     exact (r1.good b (z1.good b (y1.good b h2).1).1).1
    ·intro b hb hs
     rcases g45 b hb with h | h
     ·rw [hG2] at h
      rcases h with h | h
      ·rcases (hX' b hs).2 with h' | h'
       ·exact bt.good b h h'
       ·exact Nat.lt_irrefl _ (Nat.lt_of_lt_of_le (bt.winv.lt b h) h')
      ·exact (hGx b h).2 hs
     ·exact n1S b h (hX' b hs).1
    ·exact fun b hs => (hX' b hs).1
    ·intro b hs
     rcases (hT' b hs).1 with h | h
     ·exact bt.seq b h
     ·exact ⟨(bt.winv.base b h).1, Nat.le_trans bt.size h⟩
    ·have s1 := bt.size
     have s2 := st.size
     have s3 := y1.size
     have s4 := e12.size
     have s5 := z1.size
     rw [World.putObj_size]
     omega
    ·exact fun h => (g45 L h).elim nL2 n1L
    ·exact fun h => (g45 D h).elim nD2 n1D
    ·exact World.putObj_heap_same (cC hL3')
    ·have k1 := (y1.old D (cC hDA) n1D).trans hDA
     have k2 : A2.heap[D]? = some (.deferred (some [])) := by rw [← hA2, World.putObj_heap_other (by omega)]; exact k1
     have k3 := (z1.old D (cC k2) n1D).trans k2
     rw [World.putObj_heap_other (by omega)]; exact k3
    ·refine marksA.to fun b hb h1 h2 => ⟨mk b hb h1, fun hg => ?_⟩
     exact (g45 b hg).elim h2 (n1M b hb)
   have frame : ∀ (o : Obj) (b : Nat), b < A.heap.size → G b ∨ T' b → (A3.putObj L o).heap[b]? = A.heap[b]? := by
    intro o b hb h
    have hbL : b ≠ L := by
     rintro rfl
     rcases h with h | h
     ·exact hGL h
     ·exact nS' b hLB (nT b (by omega)) h
    have k1 : A1.heap[b]? = A.heap[b]? ∧ (G3 b ∨ T' b) := by
     rcases h with h | h
     ·have := y1.good b (by rw [hG2]; exact .inl (bt.base b h))
      exact ⟨this.2, .inl this.1⟩
     ·exact ⟨y1.old b hb fun hn => n1S b hn h, .inr h⟩
    have k2 : A2.heap[b]? = A.heap[b]? := by rw [← hA2, World.putObj_heap_other hbL]; exact k1.1
    have k3 : A3.heap[b]? = A2.heap[b]? := by
     rcases k1.2 with h | h
     ·exact (z1.good b h).2
     ·refine z1.old b ?_ fun hn => n1S b hn h
      have s3 := y1.size
      have s4 := e12.size
      omega
    rw [World.putObj_heap_other hbL, k3, k2]
   have hroom : ∀ (o : Obj) (b n : Nat), Room A b n → Room (A3.putObj L o) b n := fun o b n h =>
    (r7 (μ := μ4) (o' := o) hL3' ⟨fun _ _ _ h => (by cases h), fun _ _ h => (by cases h)⟩ nL4).room b n (z1.room b n (p1.room b n (y1.room b n h)))
   have hsz : ∀ o, A.heap.size ≤ (A3.putObj L o).heap.size := by
    intro o
    have s3 := y1.size
    have s4 := e12.size
    have s5 := z1.size
    rw [World.putObj_size]; omega
   rw [hv] at hy
   unfold aTA at hk2
   dsimp only at hk2
   rcases DL hk2 with ⟨x', rfl, e2, e3⟩ | ⟨z', rfl, e2, e3⟩
   ·subst e2
    dsimp only at hy
    refine ⟨_, _, run_endRound none hL3', ⟨frame _, hroom _, hsz _⟩, .inl ⟨rfl, ⟨x', by rw [hdrop2]; exact hy, ?_⟩⟩⟩
    have := back (.loop (rec .ready none)) (mV sh x' 0) (uC sh x') (fun h hI => hI.dec h e3)
    rw [hrec] at this ⊢
    exact this
   ·dsimp only at hy
    have hzz : z' = z := Option.some.inj hy
    subst hzz
    obtain ⟨o1, _⟩ := xW e3
    have hb := back (.loop (rec .done (some ex2.code))) (pT exits z').2.1 (pT exits z').2.2 (fun h hI => (hI.K9 h e3).2)
    rw [hrec] at hb
    cases ex2 with
    | normal => exact absurd rfl e2
    | ret =>
     refine ⟨_, _, run_endRound (some .ret) hL3', ⟨frame _, hroom _, hsz _⟩, .inr ⟨rfl, by rw [o1]; exact e2, ?_⟩⟩
     rw [o1, hrec]
     exact hb
    | exit i =>
     refine ⟨_, _, run_endRound (some (.exit i)) hL3', ⟨frame _, hroom _, hsz _⟩, .inr ⟨rfl, by rw [o1]; exact e2, ?_⟩⟩
     rw [o1, hrec]
     exact hb
end
end Go.PM
set_option linter.unusedSimpArgs false
set_option linter.unusedVariables false
namespace Go.PM
open Go Go.RowKit
section
variable {P : Program} {n0 : Nat → Prop} {w w' wi : World} {G G' Gi : Gd} {μ μ' μi : Mp} {H : Heap} {F : Frm} {nt n : Nat}
theorem nF {fn : Func} {tmps : Array Value} {R : Ending → World → Prop} (hb : ∀ b, wi.heap.size ≤ b → n0 b) (hend : ∀ w', IM n0 wi Gi μi nt F H { tmps := tmps, defers := [] } w' → LeavesIn Fence.wide n P fn tmps R [] .returning w') :
  ∀ (ds : List Deferred) (w : World), IM n0 wi Gi μi nt F H { tmps := tmps, defers := ds } w → LeavesInM Fence.wide n P fn tmps R ds .returning w
 | [], w, h => hend w h
 | d :: ds, w, h => by
  obtain ⟨G, μ, e, hW, hF, ⟨b, rfl, h1, h2, h3, h4⟩, hm⟩ := h
  refine ⟨by simp, .inl ⟨b, _, rfl, run_takeDeferred h1, nF hb hend ds _ ⟨G, μ, e.trans (FU h1 ⟨fun _ _ _ h => (by cases h), fun _ _ h => (by cases h)⟩ h3 (hb b h2)), BF hW h1 ⟨fun _ _ _ h => (by cases h), fun _ _ h => (by cases h)⟩ h3, hF.mono (r7 h1 ⟨fun _ _ _ h => (by cases h), fun _ _ h => (by cases h)⟩ h3), ?_⟩⟩⟩
  refine hm.to fun b' hb' k1 k2 => ⟨?_, k2⟩
  rw [World.putObj_heap_other]
  ·exact k1
  ·rintro rfl
   exact h4 _ hb' rfl

def aA6 (P : Program) (E : Env) (fn : Func) (aQ : Nat) (lt rt : Nat → Option aO) (c : Code) (args rets : List Kd) (x : aJ args) : Option (aJ rets) :=
 bif Nat.ble (fQ args x).length fn.ntmps then pB P E fn.ntmps aQ lt rt false [] c (start aQ 0 (fQ args x)) [] (aGH P fn.results.toList rets) else none

theorem U6 {E : Env} (hP : yS P) (hE : aW P E) {g : Nat} {fn : Func} (hg : P.funcs[g]? = some fn) {c : Code} (hc : fn.body = some c) {aQ : Nat} {lt rt : Nat → Option aO} {args rets : List Kd} {f : aJ args → Option (aJ rets)}
  (hl : ∀ a ∈ bN c, BG P fn.ntmps lt rt false [] a) (hb : ∀ x, aA6 P E fn aQ lt rt c args rets x = f x) : bW P g args rets f := by
 intro x y hy
 rw [← hb] at hy
 unfold aA6 at hy
 obtain ⟨hlen, hy⟩ := aI hy
 obtain ⟨⟨ex, F', H'⟩, h1, h2⟩ := fK hE.callee hP.mixed c _ _ _ _ hl hy
 obtain ⟨vs, q, hex, hvs, hq, hd⟩ : ∃ vs q, (ex = .normal ∨ ex = .ret) ∧ kU P F' H' fn.results.toList = some vs ∧ aHM H' (dN vs) = some q ∧ aFG rets q = some y := by
  unfold aGH at h1
  split at h1
  ·cases h1
  ·rename_i hne
   split at h1
   ·rename_i vs hvs
    split at h1
    ·rename_i q hq
     refine ⟨vs, q, ?_, hvs, hq, h1⟩
     cases ex with
     | normal => exact .inl rfl
     | ret => exact .inr rfl
     | exit i => exact absurd rfl (hne i)
    ·cases h1
   ·cases h1
 have hcall : ∀ {n0 G μ w us}, aP n0 G μ [] w → VRs w G μ (fQ args x) us → nG P n0 w G μ g us.toArray (dN vs) H' := by
  intro n0 G μ w us hW hv
  refine ⟨enters hg (hP.names g fn hg) (by rw [hc]; rfl) _ _, (callsIn_wide (n := 0)).1 (callsIn_of_wp_marks hg hc trivial ?_)⟩
  have hI : I n0 w G μ fn.ntmps (start aQ 0 (fQ args x)) [] ⟨us.toArray ++ Array.replicate (fn.ntmps - us.toArray.size) undef, []⟩ w := ⟨G, μ, Ext.refl _ _ _ _, hW, pF (by simpa using hv) (Nat.le_of_ble_eq_true hlen)⟩
  refine wpIn_mono (h2 none 0 n0 w G μ _ w (fun _ => rfl) (fun r _ => hW.top r (Nat.zero_le _)) hI.aVR) ?_
  rintro e ⟨tm, ds⟩ w' ⟨rfl, hI', _⟩
  have hend : ∀ w', IM n0 w G μ fn.ntmps F' H' { tmps := tm, defers := [] } w' → LeavesIn Fence.wide 0 P fn tm (fun e w' => ∃ v' G'' μ'', e = .returned v' ∧ Ext n0 w G μ w' G'' μ'' ∧ aP n0 G'' μ'' H' w' ∧ VR w' G'' μ'' (dN vs) v') [] .returning w' := by
   rintro w' ⟨G', μ', e', hW', hF', _⟩
   obtain ⟨ws, h3, h4⟩ := jG (P := P) hW' hF' hvs
   have hres : (results fn tm).run P w' = .ok (if hh : ws.toArray.size = 1 then ws.toArray[0] else .tuple ws.toArray) w' := by
    rw [rP, Array.mapM_eq_mapM_toList]
    simp only [Sem.run_bind, Sem.run_map, h3, Result.andThen_ok, Sem.run_pure]
   exact ⟨_, hres, _, G', μ', rfl, e', hW', lF h4⟩
  rcases hex with rfl | rfl
  ·exact nF (fun b hb => hW.base b hb) hend ds w' hI'
  ·exact nF (fun b hb => hW.base b hb) hend ds w' hI'
 have hp := JZ hcall (yE hq).1 (yE hq).2
 intro w G us hlt hv
 obtain ⟨h3, h4⟩ := hp w G us hlt hv
 refine ⟨h3, h4.mono ?_⟩
 rintro e w' ⟨v', G', rfl, e1, e2, e3⟩
 exact ⟨v', G', rfl, e1, e2, J0 hd e3⟩

def aH5 (P : Program) (nt : Nat) (lt rt : Nat → Option aO) (rd : Bool) (T : List Nat) : List Code → Prop
 | [] => True
 | a :: r => BG P nt lt rt rd T a ∧ aH5 P nt lt rt rd T r
theorem WU {lt rt : Nat → Option aO} {rd : Bool} {T : List Nat} : ∀ {l : List Code}, aH5 P nt lt rt rd T l → ∀ a ∈ l, BG P nt lt rt rd T a
 | [], _, a, ha => by simp at ha
 | b :: r, h, a, ha => by
  rcases List.mem_cons.1 ha with rfl | ha
  ·exact h.1
  ·exact WU h.2 a ha
theorem lQ {lt rt : Nat → Option aO} {rd : Bool} {T : List Nat} {c : Code} {l : List Code} (hc : bN c = l) (h : aH5 P nt lt rt rd T l) : ∀ a ∈ bN c, BG P nt lt rt rd T a := by
 rw [hc]; exact WU h
theorem O8 {lt rt : Nat → Option aO} {rd : Bool} {T : List Nat} {a : Code} {i : Nat} {s0 : aO} (hf : aF a = i) (hlt : lt i = some s0) (h : r9 P nt rd T (.loop a) s0) : BG P nt lt rt rd T (.loop a) := by
 intro s hs
 rw [hf, hlt] at hs
 cases hs
 exact h
theorem aKO {lt rt : Nat → Option aO} {g : Operand} {ps : Array Tmp} {as1 a : Code} {i : Nat} {s0 : aO} (hf : aF a = i) (hrt : rt i = some s0) (h : r9 P nt false [] (.rangeFunc g ps as1 a) s0) : BG P nt lt rt false [] (.rangeFunc g ps as1 a) := by
 intro _ s hs
 rw [hf, hrt] at hs
 cases hs
 exact h
def G7 (c : Code) (i : Nat) : Code := (bN c).getD i .skip
def inLoop : Code → Code
 | .loop a => a
 | .rangeFunc _ _ _ a => a
 | _ => .skip
def j5 : Code → Code
 | .rangeFunc _ _ as1 _ => as1
 | _ => .skip
def BM : Code → Operand
 | .rangeFunc g _ _ _ => g
 | _ => .const undef
def OX : Code → Array Tmp
 | .rangeFunc _ ps _ _ => ps
 | _ => #[]
theorem AY {lt rt : Nat → Option aO} {r : Code} {i : Nat} {s0 : aO} (hr : r = .rangeFunc (BM r) (OX r) (j5 r) (inLoop r)) (hf : aF (inLoop r) = i) (hrt : rt i = some s0) (h : r9 P nt false [] r s0) : BG P nt lt rt false [] r := by
 rw [hr] at h ⊢
 exact aKO hf hrt h
theorem DR {E : Env} {aQ : Nat} {lt rt : Nat → Option aO} (hE : aW P E) (hP : yS P) {r : Code} (hrc : r = .rangeFunc (BM r) (OX r) (j5 r) (inLoop r)) {gf : Nat} {fn : Func} {c : Code} {ts : List Ty} {ks : List Kd} {f : tI ts → Option (List (aJ ks))}
  (hg : P.funcs[gf]? = some fn) (hc : fn.body = some c) (hit : MD P gf ts ks f)
  {sh : List (Nat × Kd)} {exits : List (Ex × List (Nat × Kd))} {step : Shape.den sh → aJ ks → Option (Shape.den sh ⊕ aT exits)} {cap : Shape.den sh → tI ts}
  (has : bN (j5 r) = []) (hbd : ∀ b ∈ bN (inLoop r), BG P nt lt rt true (qN sh 0) b)
  (hsq : ∀ x, VZ gf ts sh (BM r) x = some (cap x))
  (hr : ∀ y e, JC P E nt aQ lt rt (OX r).toList (j5 r) (inLoop r) ks sh exits y e = step y e) :
  r9 P nt false [] r ⟨sh, exits, aB1 sh exits (fun x => f (cap x)) step⟩ := by
 have := aP5 (g := BM r) (ps := OX r) (as1 := j5 r) (body := inLoop r) hE.callee hP.mixed hit (fun args w => enters hg (hP.names gf fn hg) (by rw [hc]; rfl) args w) (by rw [has]; intro b hb; cases hb) hbd (fun x l hl => ⟨cap x, hsq x, hl⟩) hr
 rw [← hrc] at this
 exact this
end
end Go.PM
namespace Go.PM
open Go Go.RowKit
def lE : Code → Nat
 | .region _ ops _ => JL ops.toList ops.toList 0 0
 | .seq a b => lE a ||| lE b
 | .cond c a b => aNS c ||| lE a ||| lE b
 | .block _ a => lE a
 | .loop a => lE a
 | .scope a => lE a
 | .rangeFunc g _ as1 a => aNS g ||| lE as1 ||| lE a
 | _ => 0
def rH (fn : Func) : Nat := match fn.body with
 | some c => BS fn.results.toList (lE c)
 | none => 0
end Go.PM
set_option linter.unusedSimpArgs false
set_option linter.unusedVariables false
namespace Go.Proofs
open Go Go.RowKit Go.Sort Go.Lib
set_option maxHeartbeats 6400000
set_option maxRecDepth 100000
theorem Tryz.KS (u : Nat) (hu64 : u < 18446744073709551616) (w : World) (htab : Lib.TabIs Tryz.prog w "internal/strconv.uint64pow10" .u64 Lib.pow10Tab) :
  Calls Tryz.prog 205 #[.int .u64 u, .int .i64 10] w fun e w' => e = .returned (.string ⟨(Lib.decDigits u).toArray⟩) ∧ ∃ k os, w' = grow (w.drewN k) os := by
 by_cases hs : u < 100
 ·go_enter Tryz.func205, Tryz.ntmps205
  have hwr : IntKind.i64.wrap (u : Int) = (u : Int) := by rw [IntKind.wrap_i64]; omega
  go_wp2_with (go_at_call 178; refine (Tryz.internal_strconv_small u hs _).mono ?_; rintro e w' ⟨rfl, rfl⟩)
  go_ret
  exact ⟨rfl, 0, #[], by simp [World.drewN_zero]⟩
 ·have hu1 : 1 ≤ u := by omega
  have hnd20 : Lib.nDigits u ≤ 20 := by have := Lib.numDigits_eq u hu1 hu64; split at this <;> omega
  have hal : Tryz.prog.arrayLen 252 = 24 := by simp [Program.arrayLen, Tryz.underlying252]
  have hsl : ∀ W, (Instr.sliceAt 252 (.pointer (some ⟨w.heap.size, 0, none⟩)) none (some (.int .i64 (Lib.nDigits u : Int))) none).run Tryz.prog W = .ok (.slice (some ⟨w.heap.size, 0, none⟩) (Lib.nDigits u) 24) W := fun W => by
   rw [run_sliceAt_array_h W 252 ⟨w.heap.size, 0, none⟩ (by simp [Program.arrayLen, Program.elem, Tryz.underlying252]) .i64 (Lib.nDigits u : Int) (by omega) (by rw [hal]; omega)]
   go_simp
  have hH0 := Lib.holds_zero0 w 252 (Lib.nDigits u) (by omega)
  have hfmt := Tryz.internal_strconv_formatBase10 w.heap.size 0 24 u (Array.replicate (Lib.nDigits u) 0) (w.alloc (.cells Lib.zeros24 252)) hH0 (by rw [Array.size_replicate]; exact Lib.lt_pow_nDigits u) hu64 (by rw [Array.size_replicate]; omega)
  rw [Array.size_replicate] at hfmt
  have HH0 := Lib.hid hH0
  clear hH0 hal
  go_enter Tryz.func205, Tryz.ntmps205
  go_wp2_with (first
   | (go_at_call 179; refine (Tryz.internal_strconv_numDigits u hu1 hu64 _ (Lib.tabIs_alloc htab _)).mono ?_; rintro e w' ⟨rfl, rfl⟩))
  go_at_call 180
  refine hfmt.mono ?_
  rintro e w' ⟨rfl, k, v', dk, rfl, hF⟩
  have hcv : (convert 187 9 (.slice (some ⟨w.heap.size, 0, none⟩) (Lib.nDigits u) 24)).run Tryz.prog ((putRow (fun (b : UInt8) => Value.int .u8 (b.toNat : Int)) (w.alloc (.cells Lib.zeros24 252)) w.heap.size 0 dk).drewN k) = .ok (.string ⟨(Lib.decDigits u).toArray⟩) ((putRow (fun (b : UInt8) => Value.int .u8 (b.toNat : Int)) (w.alloc (.cells Lib.zeros24 252)) w.heap.size 0 dk).drewN k) := by
   have h := run_convert_bytes_back (P := Tryz.prog) ((putRow (fun (b : UInt8) => Value.int .u8 (b.toNat : Int)) (w.alloc (.cells Lib.zeros24 252)) w.heap.size 0 dk).drewN k) 187 9 5 ⟨w.heap.size, 0, none⟩ 24 (Lib.decDigits u) Tryz.underlying187 Tryz.underlying5 Tryz.underlying9 (fun j hj => by
    rw [Lib.row_is_numeral hF j hj, Lib.add_plain, World.cell?_drewN]
    exact cell?_putRow (fun (b : UInt8) => Value.int .u8 (b.toNat : Int)) _ w.heap.size 0 _ dk HH0.out (by rw [hF.size, Array.size_replicate]) j (by rw [hF.size]; rw [Lib.decDigits_length] at hj; exact hj))
   rw [Lib.decDigits_length] at h
   exact h
  go_wp2
  go_ret
  obtain ⟨os, eo⟩ := Lib.fin_at w (.cells Lib.zeros24 252) dk k 0
  exact ⟨rfl, k, os, eo⟩
theorem Tryz.HI (u : Nat) (hu64 : u < 18446744073709551616) (w : World) (htab : Lib.TabIs Tryz.prog w "internal/strconv.uint64pow10" .u64 Lib.pow10Tab) :
  Calls Tryz.prog 186 #[.int .u64 u, .int .i64 10] w fun e w' => e = .returned (.string ⟨(Lib.decDigits u).toArray⟩) ∧ ∃ k os, w' = grow (w.drewN k) os := by
 go_enter Tryz.func186, Tryz.ntmps186
 go_wp2_with (go_at_call 205; refine (Tryz.KS u hu64 _ htab).mono ?_; rintro e w' ⟨rfl, k, os, rfl⟩)
 go_ret
 exact ⟨rfl, k, os, rfl⟩
end Go.Proofs
set_option linter.unusedSimpArgs false
set_option linter.unusedVariables false
namespace Go.PM
open Go Go.RowKit Go.Proofs
set_option maxRecDepth 100000
theorem aJY {w : World} {G : Nat → Prop} (h : Lt w G) : Lib.TabIs Tryz.prog w "internal/strconv.uint64pow10" .u64 Lib.pow10Tab := by
 have hm : (0, aKD .u64 [1, 10, 100, 1000, 10000, 100000, 1000000, 10000000, 100000000, 1000000000, 10000000000, 100000000000, 1000000000000, 10000000000000, 100000000000000, 1000000000000000, 10000000000000000, 100000000000000000, 1000000000000000000, 10000000000000000000]) ∈ aXC := by simp [aXC]
 obtain ⟨-, t, fr, ht⟩ := h.tab _ hm
 have hg : Tryz.prog.globalNamed "internal/strconv.uint64pow10" = some 0 := by kernel_rfl
 unfold Lib.TabIs World.var?
 rw [hg]
 simp only [Option.bind_some]
 rw [ht]
 rfl
theorem aF9 {w : World} {G : Nat → Prop} (hG : ∀ b, G b → b < w.heap.size) (k : Nat) (os : Array Obj) : Ext (mI w) w (Gd.of G) aG (Sort.grow (w.drewN k) os) (Gd.of G) aG :=
 have hb : ∀ b, b < w.heap.size → (Sort.grow (w.drewN k) os).heap[b]? = w.heap[b]? := fun b hb => Lib.heap_grow_old w k os b hb
 {good := fun b h => ⟨h, hb b (hG b h)⟩
  row := fun _ _ h => h
  map := fun _ _ h => (by cases h)
  len := fun _ _ h => (by cases h)
  room := fun b n ⟨c, t, fr, h1, h2⟩ => ⟨c, t, fr, by rw [hb b (cC h1)]; exact h1, h2⟩
  os := rfl
  tape := rfl
  output := rfl
  size := by show w.heap.size ≤ (w.heap ++ os).size; simp
  old := fun b h _ => hb b h
  new := fun b h => .inl h }
theorem SG {w w' : World} {G : Nat → Prop} (hG : ∀ b, G b → b < w.heap.size) (h : Below w.heap.size w w') : Ext (mI w) w (Gd.of G) aG w' (Gd.of G) aG :=
 {good := fun b hb => ⟨hb, h.block b (hG b hb)⟩
  row := fun _ _ h => h
  map := fun _ _ h => (by cases h)
  len := fun _ _ h => (by cases h)
  room := fun b n ⟨c, t, fr, h1, h2⟩ => ⟨c, t, fr, by rw [h.block b (cC h1)]; exact h1, h2⟩
  os := h.os
  tape := h.tape
  output := h.output
  size := h.size
  old := fun b hb _ => h.block b hb
  new := fun b hb => .inl hb }
theorem Q8 {w : World} {G : Nat → Prop} (hG : ∀ b, G b → b < w.heap.size) (e : TypeId) (t : ByteArray) : Ext (mI w) w (Gd.of G) aG (Lib.bytesWorld w e t) (Gd.of G) aG :=
 SG hG (Joins.below_bytesWorld _ w e t (Nat.le_refl _))
def EA : Nat → Nat → List UInt8 → List UInt8
 | 0, _, acc => acc
 | f + 1, u, acc => bif Nat.blt u 10 then UInt8.ofNat (48 + u) :: acc else EA f (u / 10) (UInt8.ofNat (48 + u % 10) :: acc)
theorem V0 : ∀ (f u : Nat) (acc : List UInt8), u < 10 ^ (f + 1) → EA (f + 1) u acc = Lib.decDigits u ++ acc
 | f, u, acc, h => by
  rw [Lib.decDigits]
  by_cases h1 : u < 10
  ·rw [dif_pos h1, EA]
   have : Nat.blt u 10 = true := by rw [iZ]; simpa using h1
   rw [this]; rfl
  ·rw [dif_neg h1, EA]
   have : Nat.blt u 10 = false := by rw [iZ]; simpa using h1
   rw [this, cond_false]
   cases f with
   | zero => omega
   | succ f =>
    rw [V0 f (u / 10) _ (by rw [Nat.pow_succ] at h; omega)]
    simp
def qY : Int → ByteArray
 | .ofNat u => ⟨(EA 20 u []).toArray⟩
 | .negSucc u => ⟨(45 :: EA 20 (u + 1) []).toArray⟩
theorem aE8 {n : Int} (h : n.natAbs < 10 ^ 20) : qY n = ⟨(Lib.itoa n).toArray⟩ := by
 cases n with
 | ofNat u =>
  have h1 : ¬ (Int.ofNat u < 0) := by simp
  unfold Lib.itoa
  rw [if_neg h1]
  show (⟨(EA (19 + 1) u []).toArray⟩ : ByteArray) = ⟨(Lib.decDigits u).toArray⟩
  rw [V0 19 u [] h, List.append_nil]
 | negSucc u =>
  have h1 : Int.negSucc u < 0 := Int.negSucc_lt_zero u
  unfold Lib.itoa
  rw [if_pos h1]
  show (⟨(45 :: EA (19 + 1) (u + 1) []).toArray⟩ : ByteArray) = ⟨(45 :: Lib.decDigits (u + 1)).toArray⟩
  rw [V0 19 (u + 1) [] h, List.append_nil]
def k7 (x : aJ [.int .i64]) : Option (aJ [.str]) := match x with
 | (n, ()) => bif !(ltI n (-9223372036854775808)) && !(ltI 9223372036854775807 n) then some (qY n, ()) else none
def uV (x : aJ [.str]) : Option (aJ [.int .i64, .nilI]) := match x with
 | (s, ()) => bif Nat.ble s.size 18 then (match Lib.atoi s.data.toList with
  | some n => some (n, (), ())
  | none => none) else none
def oV (x : aJ [.str, .int .i64, .int .i64]) : Option (aJ [.int .i64, .nilI]) := match x with
 | (s, b, c, ()) => bif Nat.ble s.size 1000000000 && (eqI b 10 && eqI c 64) then (match Lib.parseIntB 64 s.data.toList with
  | .ok n => some (n, (), ())
  | _ => none) else none
def mX (x : aJ [.str, .int .i64, .int .i64]) : Option (aJ [.int .u64, .nilI]) := match x with
 | (s, b, c, ()) => bif Nat.ble s.size 1000000000 && (eqI b 10 && eqI c 64) then (match Lib.parseUintB 64 s.data.toList with
  | .ok n => some ((n : Int), (), ())
  | _ => none) else none
def lO (x : aJ [.int .u64, .int .i64]) : Option (aJ [.str]) := match x with
 | (n, b, ()) => bif !(ltI n 0) && (ltI n 18446744073709551616 && eqI b 10) then some (qY n, ()) else none
theorem aXQ {w : World} {G : Gd} {u : Value} {vs : Array Value} (h : VRs w G aG [.lit u] vs.toList) : vs = #[u] := by
 rw [VRs] at h
 obtain ⟨v, us, hvs, h1, h2⟩ := h
 rw [VRs] at h2
 rw [VR] at h1
 subst h2; subst h1
 exact Array.ext' (by simpa using hvs)
theorem aY6 {w : World} {G : Gd} {u1 u2 : Value} {vs : Array Value} (h : VRs w G aG [.lit u1, .lit u2] vs.toList) : vs = #[u1, u2] := by
 rw [VRs] at h
 obtain ⟨v, us, hvs, h1, h2⟩ := h
 rw [VRs] at h2
 obtain ⟨v2, us2, hvs2, h3, h4⟩ := h2
 rw [VRs] at h4
 rw [VR] at h1 h3
 subst h4; subst h3; subst h1; subst hvs2
 exact Array.ext' (by simpa using hvs)
theorem aYK {w : World} {G : Gd} {u1 u2 u3 : Value} {vs : Array Value} (h : VRs w G aG [.lit u1, .lit u2, .lit u3] vs.toList) : vs = #[u1, u2, u3] := by
 rw [VRs] at h
 obtain ⟨v, us, hvs, h1, h2⟩ := h
 rw [VRs] at h2
 obtain ⟨v2, us2, hvs2, h3, h4⟩ := h2
 rw [VRs] at h4
 obtain ⟨v3, us3, hvs3, h5, h6⟩ := h4
 rw [VRs] at h6
 rw [VR] at h1 h3 h5
 subst h6; subst h5; subst h3; subst h1; subst hvs3; subst hvs2
 exact Array.ext' (by simpa using hvs)
theorem I7 {w : World} {G : Gd} (k : IntKind) (n : Int) : VR w G aG (.tuple [.lit (.int k n), .lit .nilIface]) (.tuple #[.int k n, .nilIface]) := by
 rw [VR]
 refine ⟨_, rfl, ?_⟩
 show VRs w G aG _ [.int k n, .nilIface]
 rw [VRs]
 refine ⟨_, _, rfl, by rw [VR], ?_⟩
 rw [VRs]
 exact ⟨_, _, rfl, by rw [VR], by rw [VRs]⟩
theorem aCP {w : World} {G : Gd} (s : ByteArray) : VR w G aG (.lit (.string s)) (.string s) := by rw [VR]
theorem YM : bW Tryz.prog 86 [.int .i64] [.str] k7 := by
 rintro ⟨n, ⟨⟩⟩ y h w G vs hG hv
 unfold k7 at h
 obtain ⟨hb, h⟩ := aI h
 simp only [Bool.and_eq_true, Bool.not_eq_true', bA, decide_eq_false_iff_not] at hb
 obtain rfl := Option.some.inj h
 obtain rfl := aXQ hv
 refine ⟨enters Tryz.func86 (by kernel_rfl) (by kernel_rfl) _ _, (Tryz.strconv_Itoa n (by omega) (by omega) w (aJY hG)).mono ?_⟩
 rintro e w' ⟨rfl, k, os, rfl⟩
 rw [← aE8 (by omega)]
 have he := aF9 hG.lt k os
 exact ⟨_, G, rfl, he, fun b hb => Nat.lt_of_lt_of_le (hG b hb) he.size, aCP _⟩
theorem YO : bW Tryz.prog 154 [.str] [.int .i64, .nilI] uV := by
 rintro ⟨s, ⟨⟩⟩ y h w G vs hG hv
 unfold uV at h
 obtain ⟨hb, h4⟩ := aI h
 clear h
 have hl := Nat.le_of_ble_eq_true hb
 split at h4
 ·rename_i n hn
  obtain rfl := Option.some.inj h4
  obtain rfl := aXQ hv
  refine ⟨enters Tryz.func154 (by kernel_rfl) (by kernel_rfl) _ _, (Tryz.strconv_Atoi s n hl hn w).mono ?_⟩
  rintro e w' ⟨rfl, t, rfl⟩
  have he := Q8 hG.lt 5 t
  exact ⟨_, G, rfl, he, fun b hb => Nat.lt_of_lt_of_le (hG b hb) he.size, I7 _ n⟩
 ·cases h4
theorem LP : bW Tryz.prog 143 [.str, .int .i64, .int .i64] [.int .i64, .nilI] oV := by
 rintro ⟨s, b, c, ⟨⟩⟩ y h w G vs hG hv
 unfold oV at h
 obtain ⟨hb, h4⟩ := aI h
 clear h
 simp only [Bool.and_eq_true, hM, decide_eq_true_eq] at hb
 obtain ⟨hb1, rfl, rfl⟩ := hb
 have hl := Nat.le_of_ble_eq_true hb1
 split at h4
 ·rename_i n hn
  obtain rfl := Option.some.inj h4
  obtain rfl := aYK hv
  refine ⟨enters Tryz.func143 (by kernel_rfl) (by kernel_rfl) _ _, (Tryz.strconv_ParseInt_10_at64_ok s (by omega) n hn w).mono ?_⟩
  rintro e w' ⟨rfl, hw⟩
  rcases hw with rfl | ⟨t, rfl⟩
  ·exact ⟨_, G, rfl, Ext.refl _ _ _ _, hG.lt, I7 _ n⟩
  ·have he := Q8 hG.lt 5 t
   exact ⟨_, G, rfl, he, fun b hb => Nat.lt_of_lt_of_le (hG b hb) he.size, I7 _ n⟩
 ·cases h4
theorem KE : bW Tryz.prog 204 [.str, .int .i64, .int .i64] [.int .u64, .nilI] mX := by
 rintro ⟨s, b, c, ⟨⟩⟩ y h w G vs hG hv
 unfold mX at h
 obtain ⟨hb, h4⟩ := aI h
 clear h
 simp only [Bool.and_eq_true, hM, decide_eq_true_eq] at hb
 obtain ⟨hb1, rfl, rfl⟩ := hb
 have hl := Nat.le_of_ble_eq_true hb1
 split at h4
 ·rename_i n hn
  obtain rfl := Option.some.inj h4
  obtain rfl := aYK hv
  refine ⟨enters Tryz.func204 (by kernel_rfl) (by kernel_rfl) _ _, (Tryz.strconv_ParseUint_10_at64_ok s (by omega) n hn w).mono ?_⟩
  rintro e w' ⟨rfl, hw⟩
  rcases hw with rfl | rfl
  ·exact ⟨_, G, rfl, Ext.refl _ _ _ _, hG.lt, I7 _ n⟩
  ·have he := Q8 hG.lt 5 s
   exact ⟨_, G, rfl, he, fun b hb => Nat.lt_of_lt_of_le (hG b hb) he.size, I7 _ n⟩
 ·cases h4
theorem HY : bW Tryz.prog 186 [.int .u64, .int .i64] [.str] lO := by
 rintro ⟨n, b, ⟨⟩⟩ y h w G vs hG hv
 unfold lO at h
 obtain ⟨hb, h4⟩ := aI h
 clear h
 simp only [Bool.and_eq_true, Bool.not_eq_true', bA, hM, decide_eq_true_eq, decide_eq_false_iff_not] at hb
 obtain ⟨hb1, hb2, rfl⟩ := hb
 obtain rfl := Option.some.inj h4
 obtain rfl := aY6 hv
 obtain ⟨u, hu⟩ : ∃ u : Nat, (n : Int) = (u : Int) := ⟨Int.toNat n, (Int.toNat_of_nonneg (Int.not_lt.1 hb1)).symm⟩
 subst hu
 refine ⟨enters Tryz.func186 (by kernel_rfl) (by kernel_rfl) _ _, (Tryz.HI u (Int.ofNat_lt.1 hb2) w (aJY hG)).mono ?_⟩
 rintro e w' ⟨rfl, k, os, rfl⟩
 have hi : (⟨(Lib.decDigits u).toArray⟩ : ByteArray) = qY (u : Int) := by
  have h1 : u < 10 ^ 20 := Nat.lt_trans (Int.ofNat_lt.1 hb2) (by decide)
  rw [aE8 (by simpa using h1), Lib.itoa_nonneg]
 rw [hi]
 have he := aF9 hG.lt k os
 exact ⟨_, G, rfl, he, fun b hb => Nat.lt_of_lt_of_le (hG b hb) he.size, aCP _⟩
abbrev CC : Ent := ⟨86, [.int .i64], [.str], k7⟩
theorem DI : Ent.OK Tryz.prog CC := YM
abbrev LG : Ent := ⟨154, [.str], [.int .i64, .nilI], uV⟩
theorem QQ : Ent.OK Tryz.prog LG := YO
abbrev BW : Ent := ⟨143, [.str, .int .i64, .int .i64], [.int .i64, .nilI], oV⟩
theorem IL : Ent.OK Tryz.prog BW := LP
abbrev AB : Ent := ⟨204, [.str, .int .i64, .int .i64], [.int .u64, .nilI], mX⟩
theorem HG : Ent.OK Tryz.prog AB := KE
abbrev xD : Ent := ⟨186, [.int .u64, .int .i64], [.str], lO⟩
theorem FX : Ent.OK Tryz.prog xD := HY
end Go.PM
set_option linter.unusedSimpArgs false
set_option linter.unusedVariables false
namespace Go.PM
open Go Go.RowKit Go.Proofs
set_option maxRecDepth 100000
def r5 : List ByteArray → List UInt8 → List UInt8
 | [], _ => []
 | [x], _ => x.data.toList
 | x :: y :: r, sep => x.data.toList ++ (sep ++ r5 (y :: r) sep)
theorem WJ : ∀ (l : List ByteArray) (sep : List UInt8), r5 l sep = Lib.join (l.map (·.data.toList)) sep
 | [], sep => by simp [r5, Lib.join]
 | [x], sep => by simp [r5, Lib.join, List.intercalate]
 | x :: y :: r, sep => by
  rw [r5, WJ (y :: r) sep]
  simp [Lib.join, List.intercalate, List.intersperse]
def lH (x : aJ [.list .str, .str]) : Option (aJ [.str]) := match x with
 | (l, sep, ()) => bif Nat.ble l.length 1048576 && Nat.ble (r5 l sep.data.toList).length 1048576 then some (⟨(r5 l sep.data.toList).toArray⟩, ()) else none
theorem aJA (l : List ByteArray) (j : Nat) (x : ByteArray) (h : l[j]? = some x) : (aH .str l)[j]? = some (.lit (.string x)) := by
 induction l generalizing j with
 | nil => simp at h
 | cons a l ih =>
  have e : aH .str (a :: l) = .lit (.string a) :: aH .str l := rfl
  rw [e]
  cases j with
  | zero => simp at h; subst h; rfl
  | succ j => simpa using ih j (by simpa using h)
theorem YE : bW Tryz.prog 87 [.list .str, .str] [.str] lH := by
 rintro ⟨l, sep, ⟨⟩⟩ y h
 unfold lH at h
 dsimp only at h
 cases hc : (Nat.ble l.length 1048576 && Nat.ble (r5 l sep.data.toList).length 1048576) with
 | false => rw [hc] at h; cases h
 | true =>
 rw [hc] at h
 cases Option.some.inj h
 rw [Bool.and_eq_true] at hc
 have hl := Nat.le_of_ble_eq_true hc.1
 have hj := Nat.le_of_ble_eq_true hc.2
 intro w G vs hG hv
 refine ⟨enters Tryz.func87 (by kernel_rfl) (by kernel_rfl) _ _, ?_⟩
 have k1 : VRs w (Gd.of G) aG [o0 .str l none, .lit (.string sep)] vs.toList := hv
 rw [VRs] at k1
 obtain ⟨v, us, hvs, g1, g2⟩ := k1
 rw [VRs] at g2
 obtain ⟨v2, us2, rfl, g2, g3⟩ := g2
 rw [VRs] at g3
 subst g3
 rw [VR] at g2
 subst g2
 unfold o0 at g1
 rw [VR] at g1
 obtain ⟨g1, -⟩ := g1
 rw [VR] at g1
 obtain ⟨ao, c, rfl, hc1, -, hc2⟩ := g1
 have hvs : vs = #[.slice ao l.length c, .string sep] := Array.ext' (by simpa using hvs)
 subst hvs
 cases l with
 | nil =>
  refine (Tryz.strings_Join_none ao c sep w).mono ?_
  rintro e w' ⟨rfl, rfl⟩
  exact ⟨_, G, rfl, Ext.refl _ _ _ _, hG, aCP _⟩
 | cons a l =>
  rcases hc2 with h0 | ⟨b, off, rfl, hb, hcs⟩
  ·cases h0
  ·refine (Tryz.strings_Join b off c (a :: l) sep w ?_ (hG.lt b hb) (by simp at hl ⊢; omega) hc1 (by rw [← WJ]; omega)).mono ?_
   ·intro j x hx
    obtain ⟨v, h1, h2⟩ := hcs.get (aJA _ _ _ hx)
    rw [VR] at h2
    subst h2
    exact h1
   ·rintro e w' ⟨rfl, hbl⟩
    have he := SG (G := G) hG.lt hbl
    exact ⟨_, G, rfl, he, fun b hb => Nat.lt_of_lt_of_le (hG.lt b hb) he.size, by rw [← WJ]; exact aCP _⟩
abbrev LB : Ent := ⟨87, [.list .str, .str], [.str], lH⟩
theorem RQ : Ent.OK Tryz.prog LB := YE
end Go.PM
set_option linter.unusedSimpArgs false
set_option linter.unusedVariables false
namespace Go.PM
open Go Go.RowKit
section
variable {P : Program} {n0 : Nat → Prop} {w w' : World} {G G' : Gd} {μ μ1 : Mp} {H H1 : Heap}
def CQ (μ μ1 : Mp) (h : Nat) : Mp := ⟨fun r => if r < h then μ.loc r else μ1.loc (r - h), fun r => if r < h then μ.len r else μ1.len (r - h)⟩
theorem oG {h r : Nat} (hr : r < h) : (CQ μ μ1 h).loc r = μ.loc r ∧ (CQ μ μ1 h).len r = μ.len r := by simp [CQ, hr]
theorem oI {h r : Nat} (hr : h ≤ r) : (CQ μ μ1 h).loc r = μ1.loc (r - h) ∧ (CQ μ μ1 h).len r = μ1.len (r - h) := by
 have : ¬ r < h := by omega
 simp [CQ, this]
theorem aFW (hW : aP n0 G μ H w) (e : Ext (mI w) w G.bare aG w' G' μ1) : Ext n0 w G μ w' (G'.with G) (CQ μ μ1 H.length) := {
 good := e.good
 map := fun r b hr => by
  rcases Nat.lt_or_ge r H.length with hl | hl
  ·rw [(oG hl).1]; exact hr
  ·rw [(hW.top r hl).1] at hr; cases hr
 len := fun r b hr => by
  rcases Nat.lt_or_ge r H.length with hl | hl
  ·rw [(oG hl).2]; exact hr
  ·rw [(hW.top r hl).2] at hr; cases hr
 room := e.room
 row := fun _ _ h => h
 os := e.os
 tape := e.tape
 output := e.output
 size := e.size
 old := fun b hb _ => e.old b hb (Nat.not_le.2 hb)
 new := fun b hb => by
  rcases e.new b hb with h | h
  ·exact .inl h
  ·exact .inr (hW.base b h) }
theorem aK0 (hW : aP n0 G μ H w) (e : Ext (mI w) w G.bare aG w' G' μ1) (h1 : aP (mI w) G' μ1 H1 w') (ht : FH H1 = true) (hp : ∀ (r : Nat) (k : Blk), H1[r]? = some (some k) → cK.noRows k.cells = true ∧ ∀ t l, k.tag ≠ some ⟨.rows t, l⟩) : aP n0 (G'.with G) (CQ μ μ1 H.length) (H ++ H1) w' := by
 have e' := aFW hW e
 have key : ∀ (r : Nat) (k : Blk), (H ++ H1)[r]? = some (some k) → (r < H.length ∧ H[r]? = some (some k)) ∨ (H.length ≤ r ∧ H1[r - H.length]? = some (some k)) := by
  intro r k hr
  rcases Nat.lt_or_ge r H.length with hl | hl
  ·rw [List.getElem?_append_left hl] at hr; exact .inl ⟨hl, hr⟩
  ·rw [List.getElem?_append_right hl] at hr; exact .inr ⟨hl, hr⟩
 refine ⟨?_, ?_, ?_, h1.lt, ?_, fun b hb => hW.base b (Nat.le_trans e.size hb), hW.rows.step e'.toMono.aG e.size (fun _ => rfl) (fun j b hj => ?_) (fun r k t l hr hg htg => ?_)⟩
 case refine_5 =>
  have hlt := (hW.rows.sep j b hj).1
  refine ⟨e.old b hlt (Nat.not_le.2 hlt), fun hg => ?_, fun r k hr hf hl => ?_⟩
  ·rcases e.new b hg with h | h
   ·exact h
   ·exact absurd hlt (Nat.not_lt.2 h)
  ·rcases key r k hr with ⟨hl2, hr⟩ | ⟨hl2, hr⟩
   ·rw [(oG hl2).1] at hl; exact ⟨r, k, hr, hf, hl⟩
   ·rw [(oI hl2).1] at hl
    obtain ⟨_, _, _, _, _, a5⟩ := h1.blk _ k b hr hl
    exact absurd hlt (Nat.not_lt.2 (a5 hf).1)
 case refine_6 =>
  rcases key r k hr with ⟨hl2, hr⟩ | ⟨hl2, hr⟩
  ·exact ⟨k, hr, rfl, rfl, rfl, (oG hl2).1⟩
  ·exact absurd htg ((hp _ k hr).2 t l)
 ·intro r k b hr hb
  rcases key r k hr with ⟨hl, hr⟩ | ⟨hl, hr⟩
  ·rw [(oG hl).1] at hb
   obtain ⟨c, a1, a2, a3, a4, a5⟩ := hW.blk r k b hr hb
   have hlt := hW.fP hr hb
   have ho := e.old b hlt (Nat.not_le.2 hlt)
   refine ⟨c, ho.trans a1, aN.mono e'.toMono ho 0 _ a2, a3, fun hf => (e.good b (a4 hf)).1, fun hf => ⟨(a5 hf).1, fun hg => ?_⟩⟩
   rcases e.new b hg with h | h
   ·exact (a5 hf).2 h
   ·omega
  ·rw [(oI hl).1] at hb
   obtain ⟨c, a1, a2, a3, a4, a5⟩ := h1.blk _ k b hr hb
   refine ⟨c, a1, ?_, a3, a4, fun hf => ⟨hW.base b (a5 hf).1, (a5 hf).2⟩⟩
   refine kV (G := G') (G' := G'.with G) (fun b h => h) _ _ _ _ (hp _ k hr).1 ?_
   rcases EH ht hr with hg | hg
   ·obtain ⟨g, hg⟩ := Option.isSome_iff_exists.1 hg
    have := (h1.tags _ k g hr hg).1
    rw [this] at a2 ⊢
    exact gW (dU _ _) a2
   ·exact gW hg a2
 ·intro r k g hr hg
  rcases key r k hr with ⟨hl, hr⟩ | ⟨hl, hr⟩
  ·rw [(oG hl).2]; exact hW.tags r k g hr hg
  ·rw [(oI hl).2]; exact h1.tags _ k g hr hg
 ·intro r s k l b hr hs fk fl m1 m2
  rcases key r k hr with ⟨hl, hr⟩ | ⟨hl, hr⟩ <;> rcases key s l hs with ⟨hl2, hs⟩ | ⟨hl2, hs⟩
  ·rw [(oG hl).1] at m1
   rw [(oG hl2).1] at m2
   exact hW.inj r s k l b hr hs fk fl m1 m2
  ·rw [(oG hl).1] at m1
   rw [(oI hl2).1] at m2
   obtain ⟨_, _, _, _, _, a5⟩ := h1.blk _ l b hs m2
   have := hW.fP hr m1
   have := (a5 fl).1
   omega
  ·rw [(oI hl).1] at m1
   rw [(oG hl2).1] at m2
   obtain ⟨_, _, _, _, _, a5⟩ := h1.blk _ k b hr m1
   have := hW.fP hs m2
   have := (a5 fk).1
   omega
  ·rw [(oI hl).1] at m1
   rw [(oI hl2).1] at m2
   have := h1.inj _ _ k l b hr hs fk fl m1 m2
   omega
 ·intro r hr
  simp only [List.length_append] at hr
  have hl : H.length ≤ r := by omega
  rw [(oI hl).1, (oI hl).2]
  exact h1.top _ (by omega)
theorem aNL {r sz : Nat} {v : Value} (h : VR w' G' μ1 (.own r sz) v) : VR w' G' (CQ μ μ1 H.length) (.own (H.length + r) sz) v := by
 have e := oI (μ := μ) (μ1 := μ1) (h := H.length) (r := H.length + r) (by omega)
 rw [VR] at h ⊢
 rw [e.1, e.2, Nat.add_sub_cancel_left]
 exact h

def aOZ (P : Program) (g : FuncId) (args : List Kd) (e : TypeId) (ty : Ty) (f : aJ args → Option (List ty.den)) : Prop :=
 ∀ x l, f x = some l → ∀ {n0 G μ w us}, aP n0 G μ [] w → VRs w G μ (fQ args x) us → nG P n0 w G μ g us.toArray (.own 0 ty.size) [some ⟨aH ty l, e, true, false, some ⟨ty, l⟩⟩]
def aX9 (t : Nat) (e : TypeId) (ty : Ty) (ex : Ex) (F : Frm) (H : Heap) : Option (List ty.den) := match ex with
 | .exit _ => none
 | _ => match B0 [(t, .own e ty)] F H with
  | some x => some x.1
  | none => none
def aNA (P : Program) (E : Env) (fn : Func) (aQ : Nat) (lt : Nat → Option aO) (c : Code) (args : List Kd) (t : Nat) (e : TypeId) (ty : Ty) (x : aJ args) : Option (List ty.den) :=
 bif Nat.ble (fQ args x).length fn.ntmps then rF P E fn.ntmps aQ lt c (start aQ 0 (fQ args x)) [] (aX9 t e ty) else none
theorem aR9 {E : Env} (hP : yS P) (hE : aW P E) {g : Nat} {fn : Func} (hg : P.funcs[g]? = some fn) {c : Code} (hc : fn.body = some c) {aQ : Nat} {lt : Nat → Option aO} {args : List Kd} {t : Nat} (hr : fn.results.toList = [.tmp t]) {e : TypeId} {ty : Ty} {f : aJ args → Option (List ty.den)}
  (hl : ∀ a ∈ aE c, ∀ s, lt (aF a) = some s → cA P fn.ntmps a s) (hb : ∀ x, aNA P E fn aQ lt c args t e ty x = f x) : aOZ P g args e ty f := by
 intro x l hy n0 G μ w us hW hv
 rw [← hb] at hy
 unfold aNA at hy
 obtain ⟨hlen, hy⟩ := aI hy
 obtain ⟨⟨ex, F', H'⟩, h1, h2⟩ := gG hE.callee hP.mixed c _ _ _ _ hl hy
 obtain ⟨y, hex, hd, hyl⟩ : ∃ y, (ex = .normal ∨ ex = .ret) ∧ B0 [(t, .own e ty)] F' H' = some y ∧ y.1 = l := by
  unfold aX9 at h1
  split at h1
  ·cases h1
  ·rename_i hne
   split at h1
   ·rename_i y hy
    simp only [Option.some.injEq] at h1
    refine ⟨y, ?_, hy, h1⟩
    cases ex with
    | normal => exact .inl rfl
    | ret => exact .inr rfl
    | exit i => exact absurd rfl (hne i)
   ·cases h1
 obtain ⟨yl, ⟨⟩⟩ := y
 dsimp only at hyl
 subst hyl
 refine ⟨enters hg (hP.names g fn hg) (by rw [hc]; rfl) _ _, calls_of_wp hg hc ?_⟩
 have hI : I n0 w G μ fn.ntmps (start aQ 0 (fQ args x)) [] ⟨us.toArray ++ Array.replicate (fn.ntmps - us.toArray.size) undef, []⟩ w := ⟨G, μ, Ext.refl _ _ _ _, hW, pF (by simpa using hv) (Nat.le_of_ble_eq_true hlen)⟩
 refine wp_mono (h2 n0 w G μ _ w (fun r => hW.top r (Nat.zero_le _)) hI) ?_
 rintro e0 a' w' ⟨rfl, hI'⟩
 obtain ⟨G', μ', e', hW', hF'⟩ := qZ hd (fun r => hW.top r (Nat.zero_le _)) hI'
 have hvs : kU P (mV [(t, .own e ty)] (yl, ()) 0) (uC [(t, .own e ty)] (yl, ())) fn.results.toList = some [.own 0 ty.size] := by
  rw [hr]
  simp [kU, VC, mV, nX, bV]
 obtain ⟨ws, h3, h4⟩ := jG (P := P) hW' hF' hvs
 have hres : (results fn a'.tmps).run P w' = .ok (if hh : ws.toArray.size = 1 then ws.toArray[0] else .tuple ws.toArray) w' := by
  rw [rP, Array.mapM_eq_mapM_toList]
  simp only [Sem.run_bind, Sem.run_map, h3, Result.andThen_ok, Sem.run_pure]
 have hpost : a'.defers = [] ∧ ∃ v, (results fn a'.tmps).run P w' = .ok v w' ∧ (∃ v' G'' μ'', Ending.returned v = .returned v' ∧ Ext n0 w G μ w' G'' μ'' ∧ aP n0 G'' μ'' (uC [(t, .own e ty)] (yl, ())) w' ∧ VR w' G'' μ'' (.own 0 ty.size) v') :=
  ⟨hF'.defers, _, hres, _, G', μ', rfl, e', hW', lF h4⟩
 rcases hex with rfl | rfl
 ·exact hpost
 ·exact hpost

def aUJ (args : List Kd) (e : TypeId) (ty : Ty) (f : aJ args → Option (List ty.den)) (qs : List PV) (H : Heap) : Option aGO :=
 bif b8.noRefs qs && (cK.noRows qs && ty.plain) then match aD0 args qs with
  | some x => some ⟨List ty.den, f x, fun l => (.own H.length ty.size, H ++ [some ⟨aH ty l, e, true, false, some ⟨ty, l⟩⟩])⟩
  | none => none
 else none
theorem aRJ {g : FuncId} {args : List Kd} {e : TypeId} {ty : Ty} {f : aJ args → Option (List ty.den)} (hf : aOZ P g args e ty f) : DH P (g, aUJ args e ty f) := by
 intro qs H r h y hy n0 G μ w vs hW hv
 dsimp only at h
 unfold aUJ at h
 obtain ⟨hn, h⟩ := Q7 h
 split at h
 ·rename_i x hx
  have h := Option.some.inj h
  subst h
  simp only [Bool.and_eq_true] at hn
  obtain ⟨hn, hnr, hpl⟩ := hn
  have hW0 : aP (mI w) G.bare aG [] w := ⟨fun r k b h => by simp at h, fun r k g h => by simp at h, fun r s k l b h => by simp at h, hW.lt, fun _ _ => ⟨rfl, rfl⟩, fun _ h => h, iY.none _ _ (fun _ => rfl) _ _ (fun r k h => by simp at h)⟩
  obtain ⟨h1, h2⟩ := hf x y hy hW0 (vK args hx (jI (G := G) (G' := G.bare) (fun b h => h) _ _ _ hnr (bP _ _ hn hv)))
  refine ⟨h1, h2.mono ?_⟩
  rintro e' w' ⟨v', G', μ1, rfl, e1, e2, e3⟩
  refine ⟨v', G'.with G, CQ μ μ1 H.length, rfl, aFW hW e1, aK0 hW e1 e2 rfl (fun r k hr => ?_), ?_⟩
  ·cases r with
   | zero =>
    simp only [List.getElem?_cons_zero, Option.some.injEq] at hr
    subst hr
    exact ⟨nJ _ hpl _, fun t l h => by simp only [Option.some.injEq, Tg.mk.injEq] at h; obtain ⟨rfl, _⟩ := h; cases hpl⟩
   | succ r => simp at hr
  have := aNL (H := H) (μ := μ) e3
  rw [VR] at this ⊢
  simpa using this
 ·cases h
end
end Go.PM
set_option linter.unusedSimpArgs false
set_option linter.unusedVariables false
namespace Go.PM
open Go
theorem vO (i : Int) (n : Nat) : bD i n = decide (0 ≤ i ∧ i < n) := by
 cases i with
 | ofNat m =>
  show Nat.blt m n = _
  rw [iZ]
  by_cases h : m < n
  ·rw [decide_eq_true h, decide_eq_true]; exact ⟨Int.natCast_nonneg m, Int.ofNat_lt.2 h⟩
  ·rw [decide_eq_false h, decide_eq_false]; rintro ⟨-, h2⟩; exact h (Int.ofNat_lt.1 h2)
 | negSucc m =>
  show false = _
  rw [decide_eq_false]; rintro ⟨h, -⟩; exact absurd h (by omega)
theorem pX (m n : Nat) : Nat.ble m n = decide (m ≤ n) := by
 cases h : Nat.ble m n with
 | true => exact (decide_eq_true (Nat.le_of_ble_eq_true h)).symm
 | false =>
  refine (decide_eq_false fun hl => ?_).symm
  rw [Nat.ble_eq_true_of_le hl] at h
  cases h
theorem wrap64 {x : Int} (h1 : -9223372036854775808 ≤ x) (h2 : x < 9223372036854775808) : aK .i64 x = x := by
 cases x with
 | ofNat m =>
  have : m < 9223372036854775808 := by have : (m : Int) < 9223372036854775808 := h2; omega
  unfold aK
  simp only [iZ, decide_eq_true this, cond_true]
 | negSucc m =>
  have : m < 9223372036854775808 := by omega
  unfold aK
  simp only [iZ, decide_eq_true this, cond_true]
theorem BV (i : Nat) (h : i < 9223372036854775807) : aK .i64 ((i : Int) + 1) = ((i + 1 : Nat) : Int) := by
 rw [wrap64 (by omega) (by omega)]; rfl
theorem jT {α : Type} (p : Prop) [Decidable p] (a b : α) : (bif decide p then a else b) = if p then a else b := by
 by_cases h : p <;> simp [h]
theorem cQ {τ α : Type} (x : τ) (k : τ → Option α) : aB (some x) k = k x := rfl
theorem U8 (p : Prop) [Decidable p] : (!decide p) = decide (¬ p) := by by_cases h : p <;> simp [h]
theorem aAV {β γ α : Type} (z : γ) (f : β → Option α) (g : γ → Option α) : jE (.inr z) f g = g z := rfl

section
variable {σ τ : Type} {step : σ → Option (σ ⊕ τ)}
theorem jV (n : Nat) (x : σ) : bZ step (n + 1) x = match step x with
  | some (.inl y) => bZ step n y
  | some (.inr z) => some z
  | none => none := rfl
theorem TB (F : Nat → σ) (k : Nat) : ∀ (m j : Nat), (∀ i, j ≤ i → i < j + m → step (F i) = some (.inl (F (i + 1)))) → bZ step (m + k) (F j) = bZ step k (F (j + m))
 | 0, j, _ => by rw [Nat.zero_add, Nat.add_zero]
 | m + 1, j, h => by
  rw [Nat.add_right_comm, jV, h j (Nat.le_refl _) (by omega)]
  show bZ step (m + k) (F (j + 1)) = _
  rw [TB F k m (j + 1) fun i h1 h2 => h i (by omega) (by omega)]
  congr 2; omega
theorem J9 {N : Nat} (F : Nat → σ) (m : Nat) (z : τ) (hN : m < N) (h : ∀ i, i < m → step (F i) = some (.inl (F (i + 1)))) (he : step (F m) = some (.inr z)) : bZ step N (F 0) = some z := by
 obtain ⟨k, rfl⟩ : ∃ k, N = m + (k + 1) := ⟨N - m - 1, by omega⟩
 rw [TB F (k + 1) m 0 (fun i _ h2 => h i (by omega)), Nat.zero_add, jV, he]
theorem I3 (F : Nat → σ) (stop : Nat → Option τ) (z : τ) (k : Nat) : ∀ (m j : Nat), (∀ i, j ≤ i → i < j + m → step (F i) = some (match stop i with | some y => .inr y | none => .inl (F (i + 1)))) → step (F (j + m)) = some (.inr z) →
   bZ step (m + (k + 1)) (F j) = some (((List.range' j m).findSome? stop).getD z)
 | 0, j, _, he => by
  rw [Nat.zero_add, jV, show F j = F (j + 0) from rfl, he]; rfl
 | m + 1, j, h, he => by
  rw [Nat.add_right_comm, jV, h j (Nat.le_refl _) (by omega), List.range'_succ, List.findSome?_cons]
  cases hs : stop j with
  | some y => rfl
  | none =>
   show bZ step (m + (k + 1)) (F (j + 1)) = _
   exact I3 F stop z k m (j + 1) (fun i h1 h2 => h i (by omega) (by omega)) (by rw [← he]; congr 2; omega)
theorem VS {N : Nat} (F : Nat → σ) (stop : Nat → Option τ) (m : Nat) (z : τ) (hN : m < N) (h : ∀ i, i < m → step (F i) = some (match stop i with | some y => .inr y | none => .inl (F (i + 1)))) (he : step (F m) = some (.inr z)) :
  bZ step N (F 0) = some (((List.range m).findSome? stop).getD z) := by
 obtain ⟨k, rfl⟩ : ∃ k, N = m + (k + 1) := ⟨N - m - 1, by omega⟩
 rw [List.range_eq_range']
 exact I3 F stop z k m 0 (fun i _ h2 => h i (by omega)) (by rwa [Nat.zero_add])
end
end Go.PM
set_option linter.unusedSimpArgs false
set_option linter.unusedVariables false
namespace Go.PM
open Go Go.RowKit Go.Proofs
set_option maxRecDepth 100000
set_option maxHeartbeats 4000000
/-! slices.Clone[schisma/api.Row,int] -/
def f64 (x : aJ [.list TyE]) : Option (aJ [.list TyE]) := match x with
 | (v0, ()) =>
  bif Nat.blt 0 v0.length then bif Nat.ble v0.length 1048576 then some (v0, ()) else none else none
noncomputable def c64 : Code := aR Tryz.f64
abbrev E64 : Env := bF []
theorem aWI : aW Tryz.prog E64 := aU trivial
def aYH (id : Nat) : Option aO := none
theorem aQK : aE c64 = [] := by kernel_rfl
theorem aUT : ∀ x, bH Tryz.prog E64 Tryz.f64 (aC Tryz.f64) aYH c64 [.list TyE] [.list TyE] x = f64 x := by
 rintro ⟨v0, ⟨⟩⟩
 kernel_rfl
theorem aYP : bW Tryz.prog 64 [.list TyE] [.list TyE] f64 := by
 exact aX aM aWI Tryz.func64 (c := c64) (by kernel_rfl) (aQ := aC Tryz.f64) (lt := aYH) (aD aQK trivial) aUT
/-! slices.Clone of nothing -/
theorem aOF : ∃ i : TypeInfo, Tryz.prog.info? 3 = some i := ⟨(Tryz.prog.info? 3).get (by kernel_rfl), (Option.some_get _).symm⟩
theorem Tryz.aJV (w : World) (a : Option Addr) (n c n' c' : Nat) : (binOp .eql 23 (.slice a n c) (.slice none n' c')).run Tryz.prog w = .ok (.bool a.isNone) w := Lib.run_eql_slice_nil w _ _ a n c n' c' Tryz.underlying23
theorem aMW (c : Nat) (w : World) : Calls Tryz.prog 64 #[.slice none 0 c] w fun e w' => e = .returned (.slice none 0 0) ∧ w' = w := by
 have qT := Tryz.aJV
 go_enter Tryz.func64, Tryz.ntmps64
 go_wp2
 go_ret
 exact ⟨rfl, rfl⟩
set_option maxHeartbeats 2000000 in
theorem aFA (p : Addr) (c : Nat) (w : World) : Calls Tryz.prog 64 #[.slice (some p) 0 c] w fun e w' => e = .returned (.slice (some ⟨w.heap.size, 0, none⟩) 0 0) ∧ w' = w.alloc (.cells #[] 3) := by
 have qT := Tryz.aJV
 obtain ⟨i, hi⟩ := aOF
 have hrz : ∀ ty, (Builtin.append_ #[23, 23] ty #[.slice (some ⟨w.heap.size, 0, none⟩) 0 0, .slice (some p) 0 c]).run Tryz.prog (w.alloc (.cells #[] 3)) = .ok (.slice (some ⟨w.heap.size, 0, none⟩) 0 0) (w.alloc (.cells #[] 3)) := fun ty =>
  run_append_nothing _ 23 23 ty 3 i Tryz.underlying23 hi _ 0 0 (Nat.le_refl _) _ (Src.ofSlice _ (e' := 3) Tryz.underlying23 p 0 c [] (Nat.zero_mul _).symm (fun j u hu => by simp at hu) (fun u hu => by cases hu))
 go_enter Tryz.func64, Tryz.ntmps64
 go_wp2_with (at_builtin; refine Lib.wpList_append_run _ rfl _ _ _ _ rfl _ _ rfl rfl _ _ (hrz _) ?_)
 all_goals (go_ret; exact ⟨rfl, rfl⟩)
def aLL (x : aJ [.list TyE]) : Option (aJ [.list TyE]) := match x with
 | (l, ()) => bif Nat.ble l.length 1048576 then some (l, ()) else none
theorem aXW : bW Tryz.prog 64 [.list TyE] [.list TyE] aLL := by
 rintro ⟨l, ⟨⟩⟩ y h
 unfold aLL at h
 obtain ⟨hl, h4⟩ := aI h
 clear h
 have h4 := Option.some.inj h4
 subst h4
 cases l with
 | cons a l =>
  refine aYP (a :: l, ()) _ ?_
  unfold f64
  dsimp only
  rw [hl, show Nat.blt 0 (a :: l).length = true from rfl]; rfl
 | nil =>
  intro w G vs hG hv
  have k1 : VRs w (Gd.of G) aG [o0 TyE [] none] vs.toList := hv
  rw [VRs] at k1
  obtain ⟨v, us, hvs, g1, g2⟩ := k1
  rw [VRs] at g2
  subst g2
  unfold o0 at g1
  rw [VR] at g1
  obtain ⟨g1, -⟩ := g1
  rw [VR] at g1
  obtain ⟨ao, c, rfl, -, -, -⟩ := g1
  have hvs : vs = #[.slice ao 0 c] := Array.ext' (by simpa using hvs)
  subst hvs
  refine ⟨enters Tryz.func64 (by kernel_rfl) (by kernel_rfl) _ _, ?_⟩
  have hr : ∀ {w' : World} {G' : Nat → Prop} (ao' : Option Addr), VR w' (Gd.of G') aG (aCF [.list TyE] ([], ())) (.slice ao' 0 0) := by
   intro w' G' ao'
   show VR w' (Gd.of G') aG (o0 TyE [] none) _
   unfold o0
   rw [VR]
   refine ⟨?_, rfl⟩
   rw [VR]
   exact ⟨ao', 0, rfl, Nat.le_refl _, fun k hk => (by cases hk), .inl rfl⟩
  cases ao with
  | none =>
   refine (aMW c w).mono ?_
   rintro e w' ⟨rfl, rfl⟩
   exact ⟨_, G, rfl, Ext.refl _ _ _ _, hG, hr _⟩
  | some p =>
   refine (aFA p c w).mono ?_
   rintro e w' ⟨rfl, rfl⟩
   have he := SG hG (((Below.refl _ w).alloc (Nat.le_refl _) (.cells #[] 3)))
   exact ⟨_, G, rfl, he, fun b hb => Nat.lt_of_lt_of_le (hG b hb) he.size, hr _⟩
abbrev aXZ : Ent := ⟨64, [.list TyE], [.list TyE], aLL⟩
theorem aQ8 : Ent.OK Tryz.prog aXZ := aXW
end Go.PM
set_option linter.unusedSimpArgs false
set_option linter.unusedVariables false
namespace Go.PM
open Go Go.RowKit Go.Proofs
set_option maxRecDepth 100000
set_option maxHeartbeats 4000000
/-! cmp.isNaN[int] -/
def f98 (x : aJ [.int .i64]) : Option (aJ [.bool]) := match x with
 | (v0, ()) =>
  some (!(eqI v0 v0), ())
noncomputable def c98 : Code := aR Tryz.f98
abbrev E98 : Env := bF []
theorem aV3 : aW Tryz.prog E98 := aU trivial
def aYE (id : Nat) : Option aO := none
theorem aRV : aE c98 = [] := by kernel_rfl
theorem aXG : ∀ x, bH Tryz.prog E98 Tryz.f98 (aC Tryz.f98) aYE c98 [.int .i64] [.bool] x = f98 x := by
 rintro ⟨v0, ⟨⟩⟩
 kernel_rfl
theorem aYS : bW Tryz.prog 98 [.int .i64] [.bool] f98 := by
 exact aX aM aV3 Tryz.func98 (c := c98) (by kernel_rfl) (aQ := aC Tryz.f98) (lt := aYE) (aD aRV trivial) aXG
abbrev e98 : Ent := ⟨98, [.int .i64], [.bool], f98⟩
theorem aWO : Ent.OK Tryz.prog e98 := aYS

/-! cmp.Compare[int] -/
def f74 (x : aJ [.int .i64, .int .i64]) : Option (aJ [.int .i64]) := match x with
 | (v0, v1, ()) =>
  aB (f98 (v0, ())) fun y1 =>
  aB (f98 (v1, ())) fun y2 =>
  bif y1.1 then
   bif y2.1 then
    some (0, ())
   else some ((-1), ())
  else bif y2.1 then
   some (1, ())
  else bif ltI v0 v1 then
   some ((-1), ())
  else bif ltI v1 v0 then
   some (1, ())
  else some (0, ())
noncomputable def c74 : Code := aR Tryz.f74
abbrev E74 : Env := bF [e98]
theorem aWJ : aW Tryz.prog E74 := aU ⟨aWO, trivial⟩
def aXM (id : Nat) : Option aO := none
theorem aR2 : aE c74 = [] := by kernel_rfl
theorem aXF : ∀ x, bH Tryz.prog E74 Tryz.f74 (aC Tryz.f74) aXM c74 [.int .i64, .int .i64] [.int .i64] x = f74 x := by
 rintro ⟨v0, v1, ⟨⟩⟩
 kernel_rfl
theorem aY0 : bW Tryz.prog 74 [.int .i64, .int .i64] [.int .i64] f74 := by
 exact aX aM aWJ Tryz.func74 (c := c74) (by kernel_rfl) (aQ := aC Tryz.f74) (lt := aXM) (aD aR2 trivial) aXF
abbrev e74 : Ent := ⟨74, [.int .i64, .int .i64], [.int .i64], f74⟩
theorem aVW : Ent.OK Tryz.prog e74 := aY0

/-! slices.Compare[schisma/api.Row,int] -/
abbrev R3 : List (Nat × Kd) := [(0, .list TyE), (1, .list TyE), (9, .list TyE), (10, .int .i64), (11, .int .i64)]
abbrev WG : List (Ex × List (Nat × Kd)) := [(.ret, [(4, .int .i64)]), (.exit 0, [(0, .list TyE), (1, .list TyE)])]
def JU (x : Shape.den R3) : Option (Shape.den R3 ⊕ aT WG) := match x with
 | (v0, v1, v9, v10, v11, ()) =>
  bif ltI v11 v10 then
   bif bD v11 v9.length then bif !(ltI v11 (v1.length : Int)) then
    some (.inr (.inl (1, ())))
   else bif bD v11 v1.length then aB (f74 ((v9.getD v11.toNat 0), (v1.getD v11.toNat 0), ())) fun y2 =>
   bif !(eqI y2.1 0) then
    some (.inr (.inl (y2.1, ())))
   else some (.inl (v0, v1, v9, v10, (aK .i64 (v11 + 1)), ())) else none else none
  else some (.inr (.inr ((v0, v1, ()))))
def OR (x : Shape.den R3) : Option (aT WG) := bZ JU (2 ^ 64) x
def f57 (x : aJ [.list TyE, .list TyE]) : Option (aJ [.int .i64]) := match x with
 | (v0, v1, ()) =>
  aB (OR (v0, v1, v0, (v0.length : Int), 0, ())) fun z3 =>
  jE z3 (fun a4 => some (a4.1, ())) fun b5 =>
  bif ltI (b5.1.length : Int) (b5.2.1.length : Int) then
   some ((-1), ())
  else some (0, ())
noncomputable def c57 : Code := aR Tryz.f57
abbrev E57 : Env := bF [e74]
theorem aND : aW Tryz.prog E57 := aU ⟨aVW, trivial⟩
noncomputable def aES : Code := eJ c57 0
def aVN (id : Nat) : Option aO := bif Nat.beq id 2 then some ⟨R3, WG, OR⟩ else none
theorem aMR : ∀ x, eA Tryz.prog E57 36 (aC Tryz.f57) aVN aES R3 WG x = JU x := by
 rintro ⟨v0, v1, v9, v10, v11, ⟨⟩⟩
 kernel_rfl
theorem aVO : aE aES = [] := by kernel_rfl
theorem aK9 : aF aES = 2 := by kernel_rfl
theorem aPG : cA Tryz.prog 36 aES ⟨R3, WG, OR⟩ := by
 exact cN aND.callee aM.mixed _ (aD aVO trivial) aMR
theorem aQ9 : aE c57 = [aES] := by kernel_rfl
theorem aWC : ∀ x, bH Tryz.prog E57 Tryz.f57 (aC Tryz.f57) aVN c57 [.list TyE, .list TyE] [.int .i64] x = f57 x := by
 rintro ⟨v0, v1, ⟨⟩⟩
 kernel_rfl
theorem aYR : bW Tryz.prog 57 [.list TyE, .list TyE] [.int .i64] f57 := by
 exact aX aM aND Tryz.func57 (c := c57) (by kernel_rfl) (aQ := aC Tryz.f57) (lt := aVN) (aD aQ9 ⟨cT aK9 rfl aPG, trivial⟩) aWC
abbrev e57 : Ent := ⟨57, [.list TyE, .list TyE], [.int .i64], f57⟩
theorem aWR : Ent.OK Tryz.prog e57 := aYR

/-! schisma/row.Compare -/
def f35 (x : aJ [.list TyE, .list TyE]) : Option (aJ [.int .i64]) := match x with
 | (v0, v1, ()) =>
  aB (f57 (v0, v1, ())) fun y1 =>
  some (y1.1, ())
noncomputable def c35 : Code := aR Tryz.f35
abbrev E35 : Env := bF [e57]
theorem aU9 : aW Tryz.prog E35 := aU ⟨aWR, trivial⟩
def aXJ (id : Nat) : Option aO := none
theorem aSF : aE c35 = [] := by kernel_rfl
theorem aV2 : ∀ x, bH Tryz.prog E35 Tryz.f35 (aC Tryz.f35) aXJ c35 [.list TyE, .list TyE] [.int .i64] x = f35 x := by
 rintro ⟨v0, v1, ⟨⟩⟩
 kernel_rfl
theorem aZS : bW Tryz.prog 35 [.list TyE, .list TyE] [.int .i64] f35 := by
 exact aX aM aU9 Tryz.func35 (c := c35) (by kernel_rfl) (aQ := aC Tryz.f35) (lt := aXJ) (aD aSF trivial) aV2
abbrev e35 : Ent := ⟨35, [.list TyE, .list TyE], [.int .i64], f35⟩
theorem aVJ : Ent.OK Tryz.prog e35 := aZS

/-! schisma/row.fits -/
def f60 (x : aJ [.int .i64]) : Option (aJ [.bool]) := match x with
 | (v0, ()) =>
  bif !(ltI v0 (-1000000000)) then
   some (!(ltI 1000000000 v0), ())
  else some (false, ())
noncomputable def c60 : Code := aR Tryz.f60
abbrev E60 : Env := bF []
theorem aV9 : aW Tryz.prog E60 := aU trivial
def aYF (id : Nat) : Option aO := none
theorem aQ0 : aE c60 = [] := by kernel_rfl
theorem aWU : ∀ x, bH Tryz.prog E60 Tryz.f60 (aC Tryz.f60) aYF c60 [.int .i64] [.bool] x = f60 x := by
 rintro ⟨v0, ⟨⟩⟩
 kernel_rfl
theorem aYN : bW Tryz.prog 60 [.int .i64] [.bool] f60 := by
 exact aX aM aV9 Tryz.func60 (c := c60) (by kernel_rfl) (aQ := aC Tryz.f60) (lt := aYF) (aD aQ0 trivial) aWU
abbrev e60 : Ent := ⟨60, [.int .i64], [.bool], f60⟩
theorem aT5 : Ent.OK Tryz.prog e60 := aYN

/-! schisma/row.Check$1 -/
def f59 (x : aJ [.int .i64]) : Option (aJ [.bool]) := match x with
 | (v0, ()) =>
  aB (f60 (v0, ())) fun y1 =>
  bif y1.1 then
   some (false, ())
  else some (true, ())
noncomputable def c59 : Code := aR Tryz.f59
abbrev E59 : Env := bF [e60]
theorem aUD : aW Tryz.prog E59 := aU ⟨aT5, trivial⟩
def aXY (id : Nat) : Option aO := none
theorem aQT : aE c59 = [] := by kernel_rfl
theorem aVA : ∀ x, bH Tryz.prog E59 Tryz.f59 (aC Tryz.f59) aXY c59 [.int .i64] [.bool] x = f59 x := by
 rintro ⟨v0, ⟨⟩⟩
 kernel_rfl
theorem aZG : bW Tryz.prog 59 [.int .i64] [.bool] f59 := by
 exact aX aM aUD Tryz.func59 (c := c59) (by kernel_rfl) (aQ := aC Tryz.f59) (lt := aXY) (aD aQT trivial) aVA
abbrev e59 : Ent := ⟨59, [.int .i64], [.bool], f59⟩
theorem aTU : Ent.OK Tryz.prog e59 := aZG

/-! slices.IndexFunc[schisma/api.Row,int] -/
abbrev rZ : List (Nat × Kd) := [(0, .list TyE), (1, .fn 59), (7, .int .i64), (8, .int .i64)]
abbrev u9 : List (Ex × List (Nat × Kd)) := [(.ret, [(4, .int .i64)]), (.exit 0, [])]
def LA (x : Shape.den rZ) : Option (Shape.den rZ ⊕ aT u9) := match x with
 | (v0, v1, v7, v8, ()) =>
  bif ltI v8 v7 then
   bif bD v8 v0.length then aB (f59 ((v0.getD v8.toNat 0), ())) fun y2 =>
   bif y2.1 then
    some (.inr (.inl (v8, ())))
   else some (.inl (v0, (), v7, (aK .i64 (v8 + 1)), ())) else none
  else some (.inr (.inr ((()))))
def CD (x : Shape.den rZ) : Option (aT u9) := bZ LA (2 ^ 64) x
def PI (x : aJ [.list TyE, .fn 59]) : Option (aJ [.int .i64]) := match x with
 | (v0, v1, ()) =>
  aB (CD (v0, (), (v0.length : Int), 0, ())) fun z3 =>
  jE z3 (fun a4 => some (a4.1, ())) fun b5 =>
  some ((-1), ())
noncomputable def P6 : Code := aR Tryz.f73
abbrev W9 : Env := bF [e59]
theorem TL : aW Tryz.prog W9 := aU ⟨aTU, trivial⟩
noncomputable def AP : Code := eJ P6 0
def QK (id : Nat) : Option aO := bif Nat.beq id 2 then some ⟨rZ, u9, CD⟩ else none
theorem YK : ∀ x, eA Tryz.prog W9 19 (aC Tryz.f73) QK AP rZ u9 x = LA x := by
 rintro ⟨v0, v1, v7, v8, ⟨⟩⟩
 kernel_rfl
theorem aFV : aE AP = [] := by kernel_rfl
theorem XD : aF AP = 2 := by kernel_rfl
theorem ZL : cA Tryz.prog 19 AP ⟨rZ, u9, CD⟩ := by
 exact cN TL.callee aM.mixed _ (aD aFV trivial) YK
theorem aEA : aE P6 = [AP] := by kernel_rfl
theorem aFQ : ∀ x, bH Tryz.prog W9 Tryz.f73 (aC Tryz.f73) QK P6 [.list TyE, .fn 59] [.int .i64] x = PI x := by
 rintro ⟨v0, v1, ⟨⟩⟩
 kernel_rfl
theorem aK6 : bW Tryz.prog 73 [.list TyE, .fn 59] [.int .i64] PI := by
 exact aX aM TL Tryz.func73 (c := P6) (by kernel_rfl) (aQ := aC Tryz.f73) (lt := QK) (aD aEA ⟨cT XD rfl ZL, trivial⟩) aFQ
abbrev aFT : Ent := ⟨73, [.list TyE, .fn 59], [.int .i64], PI⟩
theorem aFH : Ent.OK Tryz.prog aFT := aK6

/-! slices.ContainsFunc[schisma/api.Row,int] -/
def OS (x : aJ [.list TyE, .fn 59]) : Option (aJ [.bool]) := match x with
 | (v0, v1, ()) =>
  aB (PI (v0, (), ())) fun y1 =>
  some (!(ltI y1.1 0), ())
noncomputable def WW : Code := aR Tryz.f55
abbrev aFI : Env := bF [aFT]
theorem aEP : aW Tryz.prog aFI := aU ⟨aFH, trivial⟩
def aAA (id : Nat) : Option aO := none
theorem aB8 : aE WW = [] := by kernel_rfl
theorem aGP : ∀ x, bH Tryz.prog aFI Tryz.f55 (aC Tryz.f55) aAA WW [.list TyE, .fn 59] [.bool] x = OS x := by
 rintro ⟨v0, v1, ⟨⟩⟩
 kernel_rfl
theorem aMF : bW Tryz.prog 55 [.list TyE, .fn 59] [.bool] OS := by
 exact aX aM aEP Tryz.func55 (c := WW) (by kernel_rfl) (aQ := aC Tryz.f55) (lt := aAA) (aD aB8 trivial) aGP
abbrev aE6 : Ent := ⟨55, [.list TyE, .fn 59], [.bool], OS⟩
theorem aFD : Ent.OK Tryz.prog aE6 := aMF

/-! schisma/row.Check -/
def f37 (x : aJ [.list TyE]) : Option (aJ [.int .i64]) := match x with
 | (v0, ()) =>
  bif ltI 64 (v0.length : Int) then
   some (4, ())
  else aB (OS (v0, (), ())) fun y1 =>
  bif y1.1 then
   some (4, ())
  else some (0, ())
noncomputable def c37 : Code := aR Tryz.f37
abbrev E37 : Env := bF [aE6]
theorem aTM : aW Tryz.prog E37 := aU ⟨aFD, trivial⟩
def aYG (id : Nat) : Option aO := none
theorem aRX : aE c37 = [] := by kernel_rfl
theorem aV4 : ∀ x, bH Tryz.prog E37 Tryz.f37 (aC Tryz.f37) aYG c37 [.list TyE] [.int .i64] x = f37 x := by
 rintro ⟨v0, ⟨⟩⟩
 kernel_rfl
theorem aYX : bW Tryz.prog 37 [.list TyE] [.int .i64] f37 := by
 exact aX aM aTM Tryz.func37 (c := c37) (by kernel_rfl) (aQ := aC Tryz.f37) (lt := aYG) (aD aRX trivial) aV4
abbrev e37 : Ent := ⟨37, [.list TyE], [.int .i64], f37⟩
theorem aOS : Ent.OK Tryz.prog e37 := aYX

/-! slices.Equal[schisma/api.Row,int] -/
abbrev SC : List (Nat × Kd) := [(0, .list TyE), (1, .list TyE), (12, .int .i64), (13, .int .i64)]
abbrev WV : List (Ex × List (Nat × Kd)) := [(.ret, [(4, .bool)]), (.exit 0, [])]
def JR (x : Shape.den SC) : Option (Shape.den SC ⊕ aT WV) := match x with
 | (v0, v1, v12, v13, ()) =>
  bif ltI v13 v12 then
   bif bD v13 v0.length then bif bD v13 v1.length then bif !(eqI (v0.getD v13.toNat 0) (v1.getD v13.toNat 0)) then
    some (.inr (.inl (false, ())))
   else some (.inl (v0, v1, v12, (aK .i64 (v13 + 1)), ())) else none else none
  else some (.inr (.inr ((()))))
def OV (x : Shape.den SC) : Option (aT WV) := bZ JR (2 ^ 64) x
def f46 (x : aJ [.list TyE, .list TyE]) : Option (aJ [.bool]) := match x with
 | (v0, v1, ()) =>
  bif !(eqI (v0.length : Int) (v1.length : Int)) then
   some (false, ())
  else aB (OV (v0, v1, (v0.length : Int), 0, ())) fun z1 =>
  jE z1 (fun a2 => some (a2.1, ())) fun b3 =>
  some (true, ())
noncomputable def c46 : Code := aR Tryz.f46
abbrev E46 : Env := bF []
theorem aO9 : aW Tryz.prog E46 := aU trivial
noncomputable def aFR : Code := eJ c46 0
def aVX (id : Nat) : Option aO := bif Nat.beq id 4 then some ⟨SC, WV, OV⟩ else none
theorem aKP : ∀ x, eA Tryz.prog E46 26 (aC Tryz.f46) aVX aFR SC WV x = JR x := by
 rintro ⟨v0, v1, v12, v13, ⟨⟩⟩
 kernel_rfl
theorem aUC : aE aFR = [] := by kernel_rfl
theorem aMQ : aF aFR = 4 := by kernel_rfl
theorem aPN : cA Tryz.prog 26 aFR ⟨SC, WV, OV⟩ := by
 exact cN aO9.callee aM.mixed _ (aD aUC trivial) aKP
theorem aQN : aE c46 = [aFR] := by kernel_rfl
theorem aWP : ∀ x, bH Tryz.prog E46 Tryz.f46 (aC Tryz.f46) aVX c46 [.list TyE, .list TyE] [.bool] x = f46 x := by
 rintro ⟨v0, v1, ⟨⟩⟩
 kernel_rfl
theorem aYT : bW Tryz.prog 46 [.list TyE, .list TyE] [.bool] f46 := by
 exact aX aM aO9 Tryz.func46 (c := c46) (by kernel_rfl) (aQ := aC Tryz.f46) (lt := aVX) (aD aQN ⟨cT aMQ rfl aPN, trivial⟩) aWP
abbrev e46 : Ent := ⟨46, [.list TyE, .list TyE], [.bool], f46⟩
theorem aHW : Ent.OK Tryz.prog e46 := aYT

/-! schisma/row.Equal -/
def f43 (x : aJ [.list TyE, .list TyE]) : Option (aJ [.bool]) := match x with
 | (v0, v1, ()) =>
  aB (f46 (v0, v1, ())) fun y1 =>
  some (y1.1, ())
noncomputable def c43 : Code := aR Tryz.f43
abbrev E43 : Env := bF [e46]
theorem aUW : aW Tryz.prog E43 := aU ⟨aHW, trivial⟩
def aX5 (id : Nat) : Option aO := none
theorem aSU : aE c43 = [] := by kernel_rfl
theorem aVC : ∀ x, bH Tryz.prog E43 Tryz.f43 (aC Tryz.f43) aX5 c43 [.list TyE, .list TyE] [.bool] x = f43 x := by
 rintro ⟨v0, v1, ⟨⟩⟩
 kernel_rfl
theorem aY7 : bW Tryz.prog 43 [.list TyE, .list TyE] [.bool] f43 := by
 exact aX aM aUW Tryz.func43 (c := c43) (by kernel_rfl) (aQ := aC Tryz.f43) (lt := aX5) (aD aSU trivial) aVC
abbrev e43 : Ent := ⟨43, [.list TyE, .list TyE], [.bool], f43⟩
theorem aVU : Ent.OK Tryz.prog e43 := aY7

/-! slices.Index[[]schisma/api.Key,schisma/api.Key] -/
abbrev RY : List (Nat × Kd) := [(0, .list TyF), (3, .box 109 TyF), (7, .int .i64), (8, .int .i64)]
abbrev XU : List (Ex × List (Nat × Kd)) := [(.ret, [(4, .int .i64)]), (.exit 0, [])]
def aG2 (x : Shape.den RY) : Option (Shape.den RY ⊕ aT XU) := match x with
 | (v0, v3, v7, v8, ()) =>
  bif ltI v8 v7 then
   bif bD v8 v0.length then bif (eqI v3.1 ((v0.getD v8.toNat (0, 0)).1) && (eqI v3.2 ((v0.getD v8.toNat (0, 0)).2) && true)) then
    some (.inr (.inl (v8, ())))
   else some (.inl (v0, (v3.1, v3.2), v7, (aK .i64 (v8 + 1)), ())) else none
  else some (.inr (.inr ((()))))
def XV (x : Shape.den RY) : Option (aT XU) := bZ aG2 (2 ^ 64) x
def f75 (x : aJ [.list TyF, .agg TyF]) : Option (aJ [.int .i64]) := match x with
 | (v0, v1, ()) =>
  aB (XV (v0, (v1.1, v1.2), (v0.length : Int), 0, ())) fun z1 =>
  jE z1 (fun a2 => some (a2.1, ())) fun b3 =>
  some ((-1), ())
noncomputable def c75 : Code := aR Tryz.f75
abbrev E75 : Env := bF []
theorem aQE : aW Tryz.prog E75 := aU trivial
noncomputable def aFL : Code := eJ c75 0
def aUZ (id : Nat) : Option aO := bif Nat.beq id 2 then some ⟨RY, XU, XV⟩ else none
theorem aLN : ∀ x, eA Tryz.prog E75 19 (aC Tryz.f75) aUZ aFL RY XU x = aG2 x := by
 rintro ⟨v0, v3, v7, v8, ⟨⟩⟩
 kernel_rfl
theorem aTS : aE aFL = [] := by kernel_rfl
theorem aM5 : aF aFL = 2 := by kernel_rfl
theorem aOM : cA Tryz.prog 19 aFL ⟨RY, XU, XV⟩ := by
 exact cN aQE.callee aM.mixed _ (aD aTS trivial) aLN
theorem aSR : aE c75 = [aFL] := by kernel_rfl
theorem aTW : ∀ x, bH Tryz.prog E75 Tryz.f75 (aC Tryz.f75) aUZ c75 [.list TyF, .agg TyF] [.int .i64] x = f75 x := by
 rintro ⟨v0, v1, ⟨⟩⟩
 kernel_rfl
theorem aZF : bW Tryz.prog 75 [.list TyF, .agg TyF] [.int .i64] f75 := by
 exact aX aM aQE Tryz.func75 (c := c75) (by kernel_rfl) (aQ := aC Tryz.f75) (lt := aUZ) (aD aSR ⟨cT aM5 rfl aOM, trivial⟩) aTW
abbrev e75 : Ent := ⟨75, [.list TyF, .agg TyF], [.int .i64], f75⟩
theorem aVZ : Ent.OK Tryz.prog e75 := aZF

/-! slices.Contains[[]schisma/api.Key,schisma/api.Key] -/
def f63 (x : aJ [.list TyF, .agg TyF]) : Option (aJ [.bool]) := match x with
 | (v0, v1, ()) =>
  aB (f75 (v0, (v1.1, v1.2), ())) fun y1 =>
  some (!(ltI y1.1 0), ())
noncomputable def c63 : Code := aR Tryz.f63
abbrev E63 : Env := bF [e75]
theorem aUO : aW Tryz.prog E63 := aU ⟨aVZ, trivial⟩
def aX3 (id : Nat) : Option aO := none
theorem aRM : aE c63 = [] := by kernel_rfl
theorem aWB : ∀ x, bH Tryz.prog E63 Tryz.f63 (aC Tryz.f63) aX3 c63 [.list TyF, .agg TyF] [.bool] x = f63 x := by
 rintro ⟨v0, v1, ⟨⟩⟩
 kernel_rfl
theorem aYQ : bW Tryz.prog 63 [.list TyF, .agg TyF] [.bool] f63 := by
 exact aX aM aUO Tryz.func63 (c := c63) (by kernel_rfl) (aQ := aC Tryz.f63) (lt := aX3) (aD aRM trivial) aWB
abbrev e63 : Ent := ⟨63, [.list TyF, .agg TyF], [.bool], f63⟩
theorem aXA : Ent.OK Tryz.prog e63 := aYQ

/-! schisma/isomorphy.neighbours -/
def f61 (x : aJ [.int .i64]) : Option (aJ [.list TyF]) := match x with
 | (v0, ()) =>
  bif eqI v0 2 then
   bif Nat.ble [(1, (-1)), ((-1), 1)].length 1048576 then bif Nat.ble [(1, 0), ((-1), 0), (0, 1), (0, (-1))].length 1048576 then bif Nat.blt 4 ([(1, 0), ((-1), 0), (0, 1), (0, (-1))].length + [(1, (-1)), ((-1), 1)].length) then some (([(1, 0), ((-1), 0), (0, 1), (0, (-1))] ++ [(1, (-1)), ((-1), 1)]), ()) else none else none else none
  else some ([(1, 0), ((-1), 0), (0, 1), (0, (-1))], ())
noncomputable def c61 : Code := aR Tryz.f61
abbrev E61 : Env := bF []
theorem aWK : aW Tryz.prog E61 := aU trivial
def aXN (id : Nat) : Option aO := none
theorem aQJ : aE c61 = [] := by kernel_rfl
theorem aT9 : ∀ x, bH Tryz.prog E61 Tryz.f61 (aC Tryz.f61) aXN c61 [.int .i64] [.list TyF] x = f61 x := by
 rintro ⟨v0, ⟨⟩⟩
 kernel_rfl
theorem aZM : bW Tryz.prog 61 [.int .i64] [.list TyF] f61 := by
 exact aX aM aWK Tryz.func61 (c := c61) (by kernel_rfl) (aQ := aC Tryz.f61) (lt := aXN) (aD aQJ trivial) aT9
abbrev e61 : Ent := ⟨61, [.int .i64], [.list TyF], f61⟩
theorem aTJ : Ent.OK Tryz.prog e61 := aZM

/-! schisma/isomorphy.Check -/
abbrev Q3 : List (Nat × Kd) := [(1, .box 25 TyA), (20, .agg (.prod TyD (.prod TyD TyD))), (21, .int .i64)]
abbrev WL : List (Ex × List (Nat × Kd)) := [(.ret, [(2, .int .i64)]), (.exit 0, [])]
def aHB (x : Shape.den Q3) : Option (Shape.den Q3 ⊕ aT WL) := match x with
 | (v1, v20, v21, ()) =>
  bif ltI v21 3 then
   bif eqI v21 0 then
    aB (f37 (v20.1, ())) fun y4 =>
    bif !(eqI y4.1 0) then
     some (.inr (.inl (y4.1, ())))
    else bif !(eqI (v20.1.length : Int) (v1.2.1.length : Int)) then
     some (.inr (.inl (5, ())))
    else some (.inl (v1, (v20.1, (v20.2.1, v20.2.2)), (aK .i64 (v21 + 1)), ()))
   else bif eqI v21 1 then
    aB (f37 (v20.2.1, ())) fun y5 =>
    bif !(eqI y5.1 0) then
     some (.inr (.inl (y5.1, ())))
    else bif !(eqI (v20.2.1.length : Int) (v1.2.1.length : Int)) then
     some (.inr (.inl (5, ())))
    else some (.inl (v1, (v20.1, (v20.2.1, v20.2.2)), (aK .i64 (v21 + 1)), ()))
   else bif eqI v21 2 then aB (f37 (v20.2.2, ())) fun y6 =>
   bif !(eqI y6.1 0) then
    some (.inr (.inl (y6.1, ())))
   else bif !(eqI (v20.2.2.length : Int) (v1.2.1.length : Int)) then
    some (.inr (.inl (5, ())))
   else some (.inl (v1, (v20.1, (v20.2.1, v20.2.2)), (aK .i64 (v21 + 1)), ())) else none
  else some (.inr (.inr ((()))))
def PO (x : Shape.den Q3) : Option (aT WL) := bZ aHB (2 ^ 64) x
def f24 (x : aJ [.agg TyA]) : Option (aJ [.int .i64]) := match x with
 | (v0, ()) =>
  bif !(eqI v0.1 1) then
   bif !(eqI v0.1 2) then
    some (12, ())
   else aB (PO (v0, (v0.2.1, (v0.2.2.1, v0.2.2.2)), 0, ())) fun z7 =>
   jE z7 (fun a8 => some (a8.1, ())) fun b9 =>
   some (0, ())
  else aB (PO (v0, (v0.2.1, (v0.2.2.1, v0.2.2.2)), 0, ())) fun z10 =>
  jE z10 (fun a11 => some (a11.1, ())) fun b12 =>
  some (0, ())
noncomputable def c24 : Code := aR Tryz.f24
abbrev E24 : Env := bF [e37]
theorem aQB : aW Tryz.prog E24 := aU ⟨aOS, trivial⟩
noncomputable def aFE : Code := eJ c24 0
def aVT (id : Nat) : Option aO := bif Nat.beq id 4 then some ⟨Q3, WL, PO⟩ else none
theorem aLO : ∀ x, eA Tryz.prog E24 36 (aC Tryz.f24) aVT aFE Q3 WL x = aHB x := by
 rintro ⟨v1, v20, v21, ⟨⟩⟩
 kernel_rfl
theorem aUS : aE aFE = [] := by kernel_rfl
theorem aKT : aF aFE = 4 := by kernel_rfl
theorem aP4 : cA Tryz.prog 36 aFE ⟨Q3, WL, PO⟩ := by
 exact cN aQB.callee aM.mixed _ (aD aUS trivial) aLO
theorem aSX : aE c24 = [aFE] := by kernel_rfl
theorem aXD : ∀ x, bH Tryz.prog E24 Tryz.f24 (aC Tryz.f24) aVT c24 [.agg TyA] [.int .i64] x = f24 x := by
 rintro ⟨v0, ⟨⟩⟩
 kernel_rfl
theorem aZH : bW Tryz.prog 24 [.agg TyA] [.int .i64] f24 := by
 exact aX aM aQB Tryz.func24 (c := c24) (by kernel_rfl) (aQ := aC Tryz.f24) (lt := aVT) (aD aSX ⟨cT aKT rfl aP4, trivial⟩) aXD
abbrev e24 : Ent := ⟨24, [.agg TyA], [.int .i64], f24⟩
theorem aHF : Ent.OK Tryz.prog e24 := aZH

/-! schisma/isomorphy.Equal -/
def f25 (x : aJ [.agg TyA, .agg TyA]) : Option (aJ [.bool]) := match x with
 | (v0, v1, ()) =>
  bif eqI v0.1 v1.1 then
   aB (f46 (v0.2.1, v1.2.1, ())) fun y1 =>
   bif y1.1 then
    aB (f46 (v0.2.2.1, v1.2.2.1, ())) fun y2 =>
    bif y2.1 then
     aB (f46 (v0.2.2.2, v1.2.2.2, ())) fun y3 =>
     some (y3.1, ())
    else some (false, ())
   else some (false, ())
  else some (false, ())
noncomputable def c25 : Code := aR Tryz.f25
abbrev E25 : Env := bF [e46]
theorem aWX : aW Tryz.prog E25 := aU ⟨aHW, trivial⟩
def aYJ (id : Nat) : Option aO := none
theorem aRS : aE c25 = [] := by kernel_rfl
theorem aUU : ∀ x, bH Tryz.prog E25 Tryz.f25 (aC Tryz.f25) aYJ c25 [.agg TyA, .agg TyA] [.bool] x = f25 x := by
 rintro ⟨v0, v1, ⟨⟩⟩
 kernel_rfl
theorem aZK : bW Tryz.prog 25 [.agg TyA, .agg TyA] [.bool] f25 := by
 exact aX aM aWX Tryz.func25 (c := c25) (by kernel_rfl) (aQ := aC Tryz.f25) (lt := aYJ) (aD aRS trivial) aUU
abbrev e25 : Ent := ⟨25, [.agg TyA, .agg TyA], [.bool], f25⟩
theorem aVK : Ent.OK Tryz.prog e25 := aZK

/-! schisma/isomorphy.combine -/
abbrev Q9 : List (Nat × Kd) := [(0, .list TyE), (1, .list TyE), (2, .int .i64), (3, .int .i64), (9, .own 3 TyE), (13, .int .i64), (14, .int .i64)]
abbrev W3 : List (Ex × List (Nat × Kd)) := [(.exit 0, [(9, .own 3 TyE)])]
def I5 (x : Shape.den Q9) : Option (Shape.den Q9 ⊕ aT W3) := match x with
 | (v0, v1, v2, v3, v9, v13, v14, ()) =>
  bif ltI v14 v13 then
   bif bD v14 v0.length then bif bD v14 v1.length then bif Nat.ble [(aK .i64 ((aK .i64 (v2 * (v0.getD v14.toNat 0))) + (aK .i64 (v3 * (v1.getD v14.toNat 0)))))].length 1048576 then bif Nat.ble v9.length 1048576 then some (.inl (v0, v1, v2, v3, (v9 ++ [(aK .i64 ((aK .i64 (v2 * (v0.getD v14.toNat 0))) + (aK .i64 (v3 * (v1.getD v14.toNat 0)))))]), v13, (aK .i64 (v14 + 1)), ())) else none else none else none else none
  else some (.inr ((v9, ())))
def N2 (x : Shape.den Q9) : Option (aT W3) := bZ I5 (2 ^ 64) x
def f65 (x : aJ [.list TyE, .list TyE, .int .i64, .int .i64]) : Option (aJ [.list TyE]) := match x with
 | (v0, v1, v2, v3, ()) =>
  aB (N2 (v0, v1, v2, v3, [], (v0.length : Int), 0, ())) fun z1 =>
  some (z1.1, ())
noncomputable def c65 : Code := aR Tryz.f65
abbrev E65 : Env := bF []
theorem aPX : aW Tryz.prog E65 := aU trivial
noncomputable def aF2 : Code := eJ c65 0
def aUQ (id : Nat) : Option aO := bif Nat.beq id 3 then some ⟨Q9, W3, N2⟩ else none
theorem aMY : ∀ x, eA Tryz.prog E65 35 (aC Tryz.f65) aUQ aF2 Q9 W3 x = I5 x := by
 rintro ⟨v0, v1, v2, v3, v9, v13, v14, ⟨⟩⟩
 kernel_rfl
theorem aWG : aE aF2 = [] := by kernel_rfl
theorem aKU : aF aF2 = 3 := by kernel_rfl
theorem aNW : cA Tryz.prog 35 aF2 ⟨Q9, W3, N2⟩ := by
 exact cN aPX.callee aM.mixed _ (aD aWG trivial) aMY
theorem aS0 : aE c65 = [aF2] := by kernel_rfl
theorem aU3 : ∀ x, bH Tryz.prog E65 Tryz.f65 (aC Tryz.f65) aUQ c65 [.list TyE, .list TyE, .int .i64, .int .i64] [.list TyE] x = f65 x := by
 rintro ⟨v0, v1, v2, v3, ⟨⟩⟩
 kernel_rfl
theorem aZC : bW Tryz.prog 65 [.list TyE, .list TyE, .int .i64, .int .i64] [.list TyE] f65 := by
 exact aX aM aPX Tryz.func65 (c := c65) (by kernel_rfl) (aQ := aC Tryz.f65) (lt := aUQ) (aD aS0 ⟨cT aKU rfl aNW, trivial⟩) aU3
abbrev e65 : Ent := ⟨65, [.list TyE, .list TyE, .int .i64, .int .i64], [.list TyE], f65⟩
theorem aPP : Ent.OK Tryz.prog e65 := aZC

/-! schisma/isomorphy.aLK -/
def f40 (x : aJ [.agg TyA, .agg TyB]) : Option (aJ [.agg TyA]) := match x with
 | (v0, v1, ()) =>
  aB (aLL (v0.2.1, ())) fun y1 =>
  aB (f65 (v0.2.2.1, v0.2.2.2, v1.1, v1.2.2.1, ())) fun y2 =>
  aB (f65 (v0.2.2.1, v0.2.2.2, v1.2.1, v1.2.2.2, ())) fun y3 =>
  some ((v0.1, (y1.1, (y2.1, y3.1))), ())
noncomputable def c40 : Code := aR Tryz.f40
abbrev E40 : Env := bF [aXZ, e65]
theorem aVQ : aW Tryz.prog E40 := aU ⟨aQ8, aPP, trivial⟩
def aYC (id : Nat) : Option aO := none
theorem aQ6 : aE c40 = [] := by kernel_rfl
theorem aWF : ∀ x, bH Tryz.prog E40 Tryz.f40 (aC Tryz.f40) aYC c40 [.agg TyA, .agg TyB] [.agg TyA] x = f40 x := by
 rintro ⟨v0, v1, ⟨⟩⟩
 kernel_rfl
theorem aYY : bW Tryz.prog 40 [.agg TyA, .agg TyB] [.agg TyA] f40 := by
 exact aX aM aVQ Tryz.func40 (c := c40) (by kernel_rfl) (aQ := aC Tryz.f40) (lt := aYC) (aD aQ6 trivial) aWF
abbrev e40 : Ent := ⟨40, [.agg TyA, .agg TyB], [.agg TyA], f40⟩
theorem aD4 : Ent.OK Tryz.prog e40 := aYY

/-! schisma/isomorphy.bounded -/
abbrev QH : List (Nat × Kd) := [(1, .box 25 TyA), (2, .box 25 TyA), (12, .agg (.prod TyD (.prod TyD TyD))), (13, .int .i64)]
abbrev V6 : List (Ex × List (Nat × Kd)) := [(.ret, [(2, .box 25 TyA), (3, .int .i64)]), (.exit 0, [(1, .box 25 TyA), (2, .box 25 TyA)])]
def aEE (x : Shape.den QH) : Option (Shape.den QH ⊕ aT V6) := match x with
 | (v1, v2, v12, v13, ()) =>
  bif ltI v13 3 then
   bif eqI v13 0 then
    aB (f37 (v12.1, ())) fun y4 =>
    bif !(eqI y4.1 0) then
     some (.inr (.inl ((0, ([], ([], []))), 4, ())))
    else some (.inl (v1, v2, (v12.1, (v12.2.1, v12.2.2)), (aK .i64 (v13 + 1)), ()))
   else bif eqI v13 1 then
    aB (f37 (v12.2.1, ())) fun y5 =>
    bif !(eqI y5.1 0) then
     some (.inr (.inl ((0, ([], ([], []))), 4, ())))
    else some (.inl (v1, v2, (v12.1, (v12.2.1, v12.2.2)), (aK .i64 (v13 + 1)), ()))
   else bif eqI v13 2 then aB (f37 (v12.2.2, ())) fun y6 =>
   bif !(eqI y6.1 0) then
    some (.inr (.inl ((0, ([], ([], []))), 4, ())))
   else some (.inl (v1, v2, (v12.1, (v12.2.1, v12.2.2)), (aK .i64 (v13 + 1)), ())) else none
  else some (.inr (.inr ((v1, v2, ()))))
def YD (x : Shape.den QH) : Option (aT V6) := bZ aEE (2 ^ 64) x
def f39 (x : aJ [.agg TyA]) : Option (aJ [.agg TyA, .int .i64]) := match x with
 | (v0, ()) =>
  aB (YD (v0, (0, ([], ([], []))), (v0.2.1, (v0.2.2.1, v0.2.2.2)), 0, ())) fun z7 =>
  jE z7 (fun a8 => some (a8.1, a8.2.1, ())) fun b9 =>
  some (b9.1, 0, ())
noncomputable def c39 : Code := aR Tryz.f39
abbrev E39 : Env := bF [e37]
theorem aNH : aW Tryz.prog E39 := aU ⟨aOS, trivial⟩
noncomputable def aEI : Code := eJ c39 0
def aVE (id : Nat) : Option aO := bif Nat.beq id 2 then some ⟨QH, V6, YD⟩ else none
theorem aLU : ∀ x, eA Tryz.prog E39 22 (aC Tryz.f39) aVE aEI QH V6 x = aEE x := by
 rintro ⟨v1, v2, v12, v13, ⟨⟩⟩
 kernel_rfl
theorem aTR : aE aEI = [] := by kernel_rfl
theorem aMN : aF aEI = 2 := by kernel_rfl
theorem aQF : cA Tryz.prog 22 aEI ⟨QH, V6, YD⟩ := by
 exact cN aNH.callee aM.mixed _ (aD aTR trivial) aLU
theorem aQ5 : aE c39 = [aEI] := by kernel_rfl
theorem aWL : ∀ x, bH Tryz.prog E39 Tryz.f39 (aC Tryz.f39) aVE c39 [.agg TyA] [.agg TyA, .int .i64] x = f39 x := by
 rintro ⟨v0, ⟨⟩⟩
 kernel_rfl
theorem aY4 : bW Tryz.prog 39 [.agg TyA] [.agg TyA, .int .i64] f39 := by
 exact aX aM aNH Tryz.func39 (c := c39) (by kernel_rfl) (aQ := aC Tryz.f39) (lt := aVE) (aD aQ5 ⟨cT aMN rfl aQF, trivial⟩) aWL
abbrev e39 : Ent := ⟨39, [.agg TyA], [.agg TyA, .int .i64], f39⟩
theorem aWS : Ent.OK Tryz.prog e39 := aY4

/-! schisma/isomorphy.first -/
def f48 (x : aJ [.agg TyA, .agg TyA]) : Option (aJ [.int .i64]) := match x with
 | (v0, v1, ()) =>
  aB (f35 (v0.2.2.1, v1.2.2.1, ())) fun y1 =>
  bif !(eqI y1.1 0) then
   some (y1.1, ())
  else aB (f35 (v0.2.2.2, v1.2.2.2, ())) fun y2 =>
  some (y2.1, ())
noncomputable def c48 : Code := aR Tryz.f48
abbrev E48 : Env := bF [e35]
theorem aUK : aW Tryz.prog E48 := aU ⟨aVJ, trivial⟩
def aYB (id : Nat) : Option aO := none
theorem aRZ : aE c48 = [] := by kernel_rfl
theorem aVI : ∀ x, bH Tryz.prog E48 Tryz.f48 (aC Tryz.f48) aYB c48 [.agg TyA, .agg TyA] [.int .i64] x = f48 x := by
 rintro ⟨v0, v1, ⟨⟩⟩
 kernel_rfl
theorem aZI : bW Tryz.prog 48 [.agg TyA, .agg TyA] [.int .i64] f48 := by
 exact aX aM aUK Tryz.func48 (c := c48) (by kernel_rfl) (aQ := aC Tryz.f48) (lt := aYB) (aD aRZ trivial) aVI
abbrev e48 : Ent := ⟨48, [.agg TyA, .agg TyA], [.int .i64], f48⟩
theorem aDD : Ent.OK Tryz.prog e48 := aZI

/-! schisma/schismalaw46.same -/
def f19 (x : aJ [.agg TyA, .agg TyA]) : Option (aJ [.bool]) := match x with
 | (v0, v1, ()) =>
  bif eqI v0.1 v1.1 then
   aB (f43 (v0.2.1, v1.2.1, ())) fun y1 =>
   bif y1.1 then
    aB (f43 (v0.2.2.1, v1.2.2.1, ())) fun y2 =>
    bif y2.1 then
     aB (f43 (v0.2.2.2, v1.2.2.2, ())) fun y3 =>
     some (y3.1, ())
    else some (false, ())
   else some (false, ())
  else some (false, ())
noncomputable def c19 : Code := aR Tryz.f19
abbrev E19 : Env := bF [e43]
theorem aUB : aW Tryz.prog E19 := aU ⟨aVU, trivial⟩
def aXS (id : Nat) : Option aO := none
theorem aRP : aE c19 = [] := by kernel_rfl
theorem aUI : ∀ x, bH Tryz.prog E19 Tryz.f19 (aC Tryz.f19) aXS c19 [.agg TyA, .agg TyA] [.bool] x = f19 x := by
 rintro ⟨v0, v1, ⟨⟩⟩
 kernel_rfl
theorem aY9 : bW Tryz.prog 19 [.agg TyA, .agg TyA] [.bool] f19 := by
 exact aX aM aUB Tryz.func19 (c := c19) (by kernel_rfl) (aQ := aC Tryz.f19) (lt := aXS) (aD aRP trivial) aUI
abbrev e19 : Ent := ⟨19, [.agg TyA, .agg TyA], [.bool], f19⟩
theorem aUF : Ent.OK Tryz.prog e19 := aY9

end Go.PM
set_option linter.unusedSimpArgs false
set_option linter.unusedVariables false
namespace Go.PM
open Go Go.RowKit
def forced (ops : Array Oper) (s : Nat) : Bool := (List.range ops.size).all fun j => Nat.blt j s || Nat.beq (Nat.land ((fH ops).getD j 0) (2 ^ j - 1)) (2 ^ j - 1)
def YV (l : List Oper) : Bool := (List.range l.length).all fun i => match l[i]? with
 | some o => match o.guard with
  | some (g, _) => Nat.blt g i
  | none => true
 | none => true
def VD (ops : Array Oper) (s : Nat) : Bool := C3 (fH ops) 0 ops.toList && forced ops s && YV ops.toList && FK ops && Nat.ble s ops.size

section
variable {P : Program} {ops : Array Oper} {s : Nat}
theorem VW (h : forced ops s = true) {j b : Nat} (hj : j < ops.size) (hs : s ≤ j) (hb : b < j) : ((fH ops).getD j 0).testBit b = true := by
 have := List.all_eq_true.1 h j (List.mem_range.2 hj)
 rw [Bool.or_eq_true] at this
 rcases this with h1 | h1
 ·have := cM h1; omega
 ·have h2 := Nat.eq_of_beq_eq_true h1
  have h3 : (Nat.land ((fH ops).getD j 0) (2 ^ j - 1)).testBit b = (2 ^ j - 1).testBit b := by rw [h2]
  have h4 : (2 ^ j - 1).testBit b = true := by rw [Nat.testBit_two_pow_sub_one]; simpa using hb
  rw [h4] at h3
  have h5 : ((fH ops).getD j 0 &&& (2 ^ j - 1)).testBit b = true := h3
  rw [Nat.testBit_and, Bool.and_eq_true] at h5
  exact h5.1
theorem J3 (hm : C3 (fH ops) 0 ops.toList = true) {i : Nat} {o : Oper} (ho : ops[i]? = some o) : (fH ops).getD i 0 = ED (fH ops) o.after.toList ∧ ∀ e ∈ o.after, Region.binds .any e = true → e.on < i := by
 have := Q6 hm (i := i) (o := o) (by simpa using ho)
 rwa [Nat.zero_add] at this
theorem TD (hm : C3 (fH ops) 0 ops.toList = true) {listed : Array Bool} (hc : HV (fH ops) (fun i => listed.getD i false)) {i : Nat} (hi : i ∈ Region.ready .any ops listed) :
  i < ops.size ∧ listed.getD i true = false ∧ ∀ b, ((fH ops).getD i 0).testBit b = true → listed.getD b false = true := by
 obtain ⟨h1, o, ho, h2⟩ := mem_ready.1 hi
 refine ⟨(Array.getElem?_eq_some_iff.1 ho).1, by simpa using h1, fun b hb => ?_⟩
 rw [(J3 hm ho).1] at hb
 unfold ED at hb
 rcases xM _ _ hb with h3 | ⟨e, h3, h4, h5⟩
 ·simp at h3
 ·have h6 := h2 e (Array.mem_toList_iff.1 h3) h4
  rcases h5 with rfl | h5
  ·exact h6
  ·exact hc e.on h6 b h5
theorem aSK (hm : C3 (fH ops) 0 ops.toList = true) : ∀ (i b : Nat), i < ops.size → ((fH ops).getD i 0).testBit b = true → b < i := by
 intro i
 induction i using Nat.strongRecOn with
 | _ i ih =>
  intro b hi hb
  obtain ⟨o, ho⟩ : ∃ o, ops[i]? = some o := ⟨ops[i], Array.getElem?_eq_getElem hi⟩
  have hma := J3 hm ho
  rw [hma.1] at hb
  unfold ED at hb
  rcases xM _ _ hb with h3 | ⟨e, h3, h4, h5⟩
  ·simp at h3
  ·have h6 := hma.2 e (Array.mem_toList_iff.1 h3) h4
   rcases h5 with rfl | h5
   ·exact h6
   ·have := ih e.on h6 b (by omega) h5; omega

variable {ro : Option Nat} {n : Nat} {Q : Exit → Act → World → Prop}
theorem aEJ (hm : C3 (fH ops) 0 ops.toList = true) (hf : forced ops s = true) : ∀ (k j : Nat) (L : Array Bool) (a : Act) (w : World), j + k = ops.size → s ≤ j → L.size = ops.size → (∀ i, i < ops.size → L.getD i false = decide (i < j)) →
  wpListIn (Fr ro) n P ops Q (ops.toList.drop j) a w → wpAnyIn (Fr ro) n P .any ops Q k L a w
 | 0, j, L, a, w, hk, hs, hsz, hL, h => by
  have hd : ops.toList.drop j = [] := List.drop_of_length_le (by simp; omega)
  rw [hd] at h
  refine ⟨?_, h⟩
  by_cases hr : Region.ready .any ops L = []
  ·exact hr
  ·obtain ⟨i, hi⟩ := List.exists_mem_of_ne_nil _ hr
   obtain ⟨h1, o, ho, _⟩ := mem_ready.1 hi
   have hlt := (Array.getElem?_eq_some_iff.1 ho).1
   have h2 := hL i hlt
   rw [decide_eq_true (by omega)] at h2
   have h1 : L.getD i true = false := by simpa using h1
   simp only [Array.getD, hsz, hlt, dif_pos] at h1 h2
   rw [h1] at h2; cases h2
 | k + 1, j, L, a, w, hk, hs, hsz, hL, h => by
  have hj : j < ops.size := by omega
  have hcl : HV (fH ops) (fun i => L.getD i false) := by
   intro i hi b hb
   replace hi : L.getD i false = true := hi
   have hilt : i < ops.size := by
    rcases Nat.lt_or_ge i ops.size with h | h
    ·exact h
    ·simp only [Array.getD, hsz, Nat.not_lt.2 h, dif_neg, not_false_iff] at hi; cases hi
   have h1 := hL i hilt
   rw [hi] at h1
   have h2 := of_decide_eq_true h1.symm
   have h3 := aSK hm i b hilt hb
   show L.getD b false = true
   rw [hL b (by omega)]
   exact decide_eq_true (by omega)
  have hready : ∀ i ∈ Region.ready .any ops L, i = j := by
   intro i hi
   obtain ⟨h1, h2, h3⟩ := TD hm hcl hi
   have h4 : ¬ i < j := fun hij => by
    have h5 := hL i h1
    rw [decide_eq_true hij] at h5
    simp only [Array.getD, hsz, h1, dif_pos] at h2 h5
    rw [h2] at h5; cases h5
   rcases Nat.lt_or_ge j i with hji | hji
   ·exfalso
    have h5 := h3 j (VW hf h1 (by omega) hji)
    rw [hL j hj] at h5
    have := of_decide_eq_true h5
    omega
   ·omega
  obtain ⟨o, ho⟩ : ∃ o, ops[j]? = some o := ⟨ops[j], Array.getElem?_eq_getElem hj⟩
  have hd : ops.toList.drop j = o :: ops.toList.drop (j + 1) := by
   rw [List.drop_eq_getElem_cons (by simpa using hj)]
   congr 1
   have := (Array.getElem?_eq_some_iff.1 ho).2
   simpa using this
  rw [hd] at h
  unfold wpListIn at h
  have ih : ∀ a w, wpListIn (Fr ro) n P ops Q (ops.toList.drop (j + 1)) a w → wpAnyIn (Fr ro) n P .any ops Q k (L.setIfInBounds j true) a w := fun a w h => by
   refine aEJ hm hf k (j + 1) _ a w (by omega) (by omega) (by simpa using hsz) (fun i hi => ?_) h
   by_cases hij : j = i
   ·subst hij
    rw [decide_eq_true (by omega)]
    have hlt : j < L.size := by omega
    simp [Array.getD, hlt]
   ·rw [getD_set_ne false hij, hL i hi]
    by_cases h2 : i < j
    ·rw [decide_eq_true h2, decide_eq_true (by omega)]
    ·rw [decide_eq_false h2, decide_eq_false (by omega)]
  refine ⟨fun hr => ?_, fun i hi => ?_⟩
  ·exfalso
   have : j ∈ Region.ready .any ops L := mem_ready.2 ⟨by
    have := hL j hj
    rw [decide_eq_false (by omega)] at this
    have hlt : j < L.size := by omega
    simpa [Array.getD, hlt] using this, o, ho, fun e he hb => by
     have := (J3 hm ho).2 e he hb
     rw [hL e.on (by omega)]
     exact decide_eq_true this⟩
   rw [hr] at this
   cases this
  ·have := hready i hi
   subst this
   unfold wpOpIn
   rw [ho]
   simp only
   by_cases hw : Region.wanted o (yielded ops a.tmps) = true
   ·rw [if_pos hw] at h ⊢
    exact Oper.wpIn_mono ih h
   ·rw [if_neg hw] at h ⊢
    exact ⟨h.1, ih _ _ h.2⟩

theorem aIT {o : Oper} {y y' : Nat → Option Bool} (h : ∀ g b, o.guard = some (g, b) → y g = y' g) : Region.wanted o y = Region.wanted o y' := by
 unfold Region.wanted
 cases hg : o.guard with
 | none => rfl
 | some p =>
  obtain ⟨g, b⟩ := p
  simp only [h g b hg]
theorem aDT {l : List Oper} (h : YV l = true) {i : Nat} {o : Oper} (ho : l[i]? = some o) {g : Nat} {b : Bool} (hg : o.guard = some (g, b)) : g < i := by
 have := List.all_eq_true.1 h i (List.mem_range.2 (List.getElem?_eq_some_iff.1 ho).1)
 rw [ho] at this
 simp only [hg] at this
 exact cM this

theorem aNN {ds : List Deferred} {Q1 : Exit → Act → World → Prop} (hm : C3 (fH ops) 0 ops.toList = true) (hf : forced ops s = true) (hg : YV ops.toList = true) (hnd : FK ops = true) (hs : s ≤ ops.size)
  (hno : ∀ e a w, Q1 e a w → e = .normal) (hQ : ∀ a w, Q1 .normal a w → wpListIn (Fr ro) n P ops Q (ops.toList.drop s) (lI ds a) w) :
  ∀ (k : Nat) (L1 L : Array Bool) (a : Act) (w : World), L1.size = s → L.size = ops.size → (∀ i, i < s → L1.getD i false = L.getD i false) → (∀ i, s ≤ i → L.getD i false = false) → HV (fH ops) (fun i => L.getD i false) → (List.range s).countP (fun i => !L.getD i false) = k →
   wpAny P .any (ops.toList.take s).toArray Q1 k L1 a w → wpAnyIn (Fr ro) n P .any ops Q (k + (ops.size - s)) L (lI ds a) w
 | 0, L1, L, a, w, h1, h2, h3, h4, hc, hk, h => by
  rw [Nat.zero_add]
  refine aEJ hm hf (ops.size - s) s L _ w (by omega) (Nat.le_refl _) h2 (fun i hi => ?_) (hQ a w h.2)
  by_cases his : i < s
  ·rw [decide_eq_true his]
   rw [List.countP_eq_zero] at hk
   have := hk i (List.mem_range.2 his)
   simpa using this
  ·rw [decide_eq_false his, h4 i (by omega)]
 | k + 1, L1, L, a, w, h1, h2, h3, h4, hc, hk, h => by
  have hun : ∃ i, i < s ∧ L.getD i false = false := by
   have : 0 < (List.range s).countP (fun i => !L.getD i false) := by omega
   obtain ⟨i, hi, hp⟩ := List.countP_pos_iff.1 this
   exact ⟨i, List.mem_range.1 hi, by simpa using hp⟩
  obtain ⟨i0, hi0, hu0⟩ := hun
  rw [show k + 1 + (ops.size - s) = (k + (ops.size - s)) + 1 by omega]
  refine ⟨fun hr => ?_, fun i hi => ?_⟩
  ·exfalso
   have all : ∀ i, i < ops.size → L.getD i false = true := by
    intro i
    induction i using Nat.strongRecOn with
    | _ i ih =>
     intro hi
     cases hli : L.getD i false with
     | true => rfl
     | false =>
      obtain ⟨o, ho⟩ : ∃ o, ops[i]? = some o := ⟨ops[i], Array.getElem?_eq_getElem hi⟩
      have : i ∈ Region.ready .any ops L := mem_ready.2 ⟨by
       have hlt : i < L.size := by omega
       simpa [Array.getD, hlt] using hli, o, ho, fun e he hb => ih e.on ((J3 hm ho).2 e he hb) (by have := (J3 hm ho).2 e he hb; omega)⟩
      rw [hr] at this
      cases this
   rw [all i0 (by omega)] at hu0
   cases hu0
  ·obtain ⟨hi1, hi2, hi3⟩ := TD hm hc hi
   have his : i < s := by
    rcases Nat.lt_or_ge i s with h | h
    ·exact h
    ·have := hi3 i0 (VW hf hi1 h (by omega))
     rw [hu0] at this; cases this
   obtain ⟨_, o, ho, hdeps⟩ := mem_ready.1 hi
   have hLi : L.getD i false = false := by
    have hlt : i < L.size := by omega
    simp only [Array.getD, hlt, dif_pos] at hi2 ⊢
    exact hi2
   have hpre : ∀ j, j < s → (ops.toList.take s).toArray[j]? = ops[j]? := by
    intro j hj
    simp only [List.getElem?_toArray, List.getElem?_take, hj, if_true, Array.getElem?_toList]
   have hready : i ∈ Region.ready .any (ops.toList.take s).toArray L1 := mem_ready.2 ⟨by
    have := h3 i his
    rw [hLi] at this
    have hlt : i < L1.size := by omega
    simpa [Array.getD, hlt] using this, o, by rw [hpre i his]; exact ho, fun e he hb => by
     have h5 := (J3 hm ho).2 e he hb
     rw [h3 e.on (by omega)]
     exact hdeps e he hb⟩
   have hop := h.2 i hready
   have hw : Region.wanted o (yielded (ops.toList.take s).toArray a.tmps) = Region.wanted o (yielded ops (lI ds a).tmps) := aIT fun g b hgu => by
    have hgi := aDT hg (i := i) (o := o) (by simpa using ho) hgu
    unfold yielded
    rw [hpre g (by omega)]
    rfl
   have hset : ∀ a w, wpAny P .any (ops.toList.take s).toArray Q1 k (L1.setIfInBounds i true) a w → wpAnyIn (Fr ro) n P .any ops Q (k + (ops.size - s)) (L.setIfInBounds i true) (lI ds a) w := by
    intro a w h
    have hLs : ∀ j, j ≠ i → (L.setIfInBounds i true).getD j false = L.getD j false := fun j hj => getD_set_ne false (fun e => hj e.symm)
    have hL1s : ∀ j, j ≠ i → (L1.setIfInBounds i true).getD j false = L1.getD j false := fun j hj => getD_set_ne false (fun e => hj e.symm)
    have hSi : (L.setIfInBounds i true).getD i false = true := by
     have hlt : i < L.size := by omega
     simp [Array.getD, hlt]
    have hS1i : (L1.setIfInBounds i true).getD i false = true := by
     have hlt : i < L1.size := by omega
     simp [Array.getD, hlt]
    refine aNN hm hf hg hnd hs hno hQ k _ _ a w (by simpa using h1) (by simpa using h2) ?_ ?_ ?_ ?_ h
    ·intro j hj
     by_cases hji : j = i
     ·subst hji; rw [hSi, hS1i]
     ·rw [hLs j hji, hL1s j hji, h3 j hj]
    ·intro j hj
     rw [hLs j (by omega)]; exact h4 j hj
    ·intro j hj b hb
     show (L.setIfInBounds i true).getD b false = true
     by_cases hbi : b = i
     ·subst hbi; exact hSi
     ·rw [hLs b hbi]
      by_cases hji : j = i
      ·subst hji; exact hi3 b hb
      ·have hj' : L.getD j false = true := by rw [← hLs j hji]; exact hj
       exact hc j hj' b hb
    ·have := RK (p := fun i => !L.getD i false) (p' := fun j => !(L.setIfInBounds i true).getD j false) (i := i) (by simp only [hLi, Bool.not_false]) (by simp only [hSi, Bool.not_true]) (fun j hj => by simp only [hLs j hj]) s his
     omega
   unfold wpOp at hop
   rw [hpre i his, ho] at hop
   simp only at hop
   unfold wpOpIn
   rw [ho]
   simp only
   rw [hw] at hop
   by_cases hww : Region.wanted o (yielded ops (lI ds a).tmps) = true
   ·rw [if_pos hww] at hop ⊢
    rcases hop with hop | ⟨_, a0, w0, h0⟩
    ·exact aCV (BR hnd (by rw [← Array.getElem?_toList] at ho; exact List.mem_of_getElem? ho)) hset (fun ch a w h => by cases hno _ a w h) (fun a w h => by cases hno _ a w h) hop
    ·cases hno _ a0 w0 h0
   ·rw [if_neg hww] at hop ⊢
    refine ⟨fun _ _ => trivial, ?_⟩
    rw [AR]
    exact hset _ _ hop

theorem mJ {F : Fence} {Q1 : Exit → Act → World → Prop} {l2 : List Oper} (hno : ∀ e a w, Q1 e a w → e = .normal) (hQ : ∀ a w, Q1 .normal a w → wpListIn F n P ops Q l2 a w) : ∀ {l1 : List Oper} {a w}, wpListIn F n P ops Q1 l1 a w → wpListIn F n P ops Q (l1 ++ l2) a w
 | [], a, w, h => hQ a w h
 | o :: l1, a, w, h => by
  rw [List.cons_append]
  unfold wpListIn at h ⊢
  split at h
  ·rename_i hw
   rw [if_pos hw]
   refine ⟨h.1, ?_⟩
   have h2 := h.2
   generalize (o.semAt F.round a.eval).run P w = r at h2 ⊢
   cases r with
   | ok x w' =>
    cases x with
    | value v => exact mJ hno hQ h2
    | skip => exact mJ hno hQ h2
    | defer d => exact mJ hno hQ h2
    | enter f args =>
     refine ⟨h2.1, CallsIn.mono h2.2 ?_⟩
     rintro e w'' he
     cases e with
     | returned v => exact mJ hno hQ he
     | panicked ch => cases hno _ _ _ he
     | outgrown => obtain ⟨a0, w0, h0⟩ := he; cases hno _ _ _ h0
    | row row args => exact ⟨h2.1, RowsIn.mono h2.2 fun v w'' he => mJ hno hQ he⟩
    | round l f t as1 b =>
     refine ⟨h2.1, RoundIn.mono h2.2 ?_⟩
     rintro e w'' he
     cases e with
     | returned v => exact mJ hno hQ he
     | panicked ch => cases hno _ _ _ he
     | outgrown => obtain ⟨a0, w0, h0⟩ := he; cases hno _ _ _ h0
    | _ => exact h2.elim
   | halt x w' =>
    cases x <;> first | (cases hno _ _ _ h2; done) | exact h2.elim
  ·rename_i hw
   rw [if_neg hw]
   exact ⟨h.1, mJ hno hQ h.2⟩
end
section
variable {P : Program} {E : Env} {nt : Nat} {F F' : Frm} {H H' : Heap} {ops : Array Oper} {s : Nat}
theorem aB9 (hcl : bX P (cR P E)) (hP : P.follows .mixedOrders = true) {id : Nat} {draw : Bool} (hsp : VD ops s = true)
  (hrun : (bif draw then E3 P (cR P E) nt (ops.toList.take s).toArray F H else C5 P (cR P E) nt ops.toList (ops.toList.take s) F H) = some (F', H'))
  {ro : Option Nat} {n : Nat} {n0 : Nat → Prop} {wi : World} {Gi : Gd} {μi : Mp} {a : Act} {w : World} {ds : List Deferred} {Q : Exit → Act → World → Prop} (hI : I n0 wi Gi μi nt F H a w)
  (hQ : ∀ a' w', I n0 wi Gi μi nt F' H' a' w' → wpListIn (Fr ro) n P ops Q (ops.toList.drop s) (lI ds a') w') : (Code.region id ops draw).wpIn (Fr ro) n P Q (lI ds a) w := by
 simp only [VD, Bool.and_eq_true] at hsp
 obtain ⟨⟨⟨⟨hm, hf⟩, hg⟩, hnd⟩, hs⟩ := hsp
 have hs := Nat.le_of_ble_eq_true hs
 cases draw with
 | true =>
  simp only [cond_true] at hrun
  have h1 := IE (Q := fun e a' w' => e = .normal ∧ I n0 wi Gi μi nt F' H' a' w') hcl hrun hI (fun a' w' h => ⟨rfl, h⟩)
  refine wpIn_region_any hP ?_
  have hsz : (ops.toList.take s).toArray.size = s := by simp [List.length_take]; omega
  rw [hsz] at h1
  have hfalse : ∀ m j, (Array.replicate m false).getD j false = false := fun m j => by
   simp only [Array.getD]
   split <;> simp
  have := aNN (n := n) (ro := ro) (ds := ds) (Q := Q) hm hf hg hnd hs (fun e a w h => h.1) (fun a w h => hQ a w h.2) s (Array.replicate s false) (Array.replicate ops.size false) a _ (by simp) (by simp) (fun i _ => by rw [hfalse, hfalse]) (fun i _ => hfalse _ i) (fun j hj b hb => by
   have : (Array.replicate ops.size false).getD j false = true := hj
   rw [hfalse] at this; cases this) (by
   rw [List.countP_eq_length.2]
   ·simp
   ·intro i _
    rw [hfalse]; rfl) h1
  rwa [show s + (ops.size - s) = ops.size by omega] at this
 | false =>
  simp only [cond_false] at hrun
  refine wpIn_region_list ?_
  rw [← List.take_append_drop s ops.toList]
  have h1 := pY (Q := fun e a' w' => e = .normal ∧ I n0 wi Gi μi nt F' H' a' w') hcl (ops.toList.take s) F H a w hrun hI (fun a' w' h => ⟨rfl, h⟩)
  have h2 := O4 (ro := ro) (n := n) (ds := ds) (Q' := fun e a' w' => e = .normal ∧ wpListIn (Fr ro) n P ops Q (ops.toList.drop s) a' w') (fun a w h => by cases h.1) (fun e a w h => ⟨h.1, hQ a w h.2⟩) (fun o ho => BR hnd (List.mem_of_mem_take ho)) h1
  exact mJ (fun e a w h => h.1) (fun a w h => h.2) h2
end
end Go.PM
set_option linter.unusedSimpArgs false
set_option linter.unusedVariables false
namespace Go.PM
open Go Go.RowKit
def Sg (Φ : (Nat → Prop) → (Nat → Prop) → World → Prop) (G0 G : Gd) (μ : Mp) (H : Heap) (A : World) : Prop :=
 ∃ (T X : Nat → Prop) (B : World) (GB : Gd) (μB : Mp), Φ T X B ∧ (∀ b, X b → T b) ∧ (∀ b, T b → b < B.heap.size) ∧ (∀ b, GB b → G0 b ∨ T b) ∧ (∀ b, G0 b → GB b) ∧
  Ext (fun b => X b ∨ B.heap.size ≤ b) B GB μB A G μ ∧ aP (fun b => X b ∨ B.heap.size ≤ b) G μ H A
section
variable {P : Program} {Φ : (Nat → Prop) → (Nat → Prop) → World → Prop} {G0 G G' : Gd} {μ μ' : Mp} {H H' : Heap} {A A' W : World} {F F' : Frm} {nt n : Nat} {a : Act}
theorem Sg.start {J : (Nat → Prop) → (Nat → Prop) → World → Prop} {g0 : Nat → Prop} (hlt : Lt W g0) (h : J (fun _ => False) (fun _ => False) W) : Sg J (Gd.of g0) (Gd.of g0) aG [] W :=
 ⟨_, _, W, Gd.of g0, aG, h, fun b h => h, fun b h => h.elim, fun b h => .inl h, fun b h => h, Ext.refl _ _ _ _, fun r k b h => by simp at h, fun r k g h => by simp at h, fun r s k l b h => by simp at h, hlt, fun _ _ => ⟨rfl, rfl⟩, fun b hb => .inr hb, iY.none _ _ (fun _ => rfl) _ _ (fun r k h => by simp at h)⟩
theorem Sg.open_ (h : Sg Φ G0 G μ H A) : ∃ n0, aP n0 G μ H A ∧ (∀ b, G0 b → G b) ∧ ∀ A' G' μ' H', Ext n0 A G μ A' G' μ' → aP n0 G' μ' H' A' → Sg Φ G0 G' μ' H' A' := by
 obtain ⟨T, X, B, GB, μB, h1, h2, h3, h4, h5, h6, h7⟩ := h
 exact ⟨_, h7, fun b hb => (h6.good b (h5 b hb)).1, fun A' G' μ' H' e w => ⟨T, X, B, GB, μB, h1, h2, h3, h4, h5, h6.trans e, w⟩⟩
theorem Sg.stp (h : Sg Φ G0 G μ H A) : ∃ T X B, Stp X B A ∧ Φ T X B := by
 obtain ⟨T, X, B, GB, μB, h1, h2, h3, h4, h5, h6, h7⟩ := h
 exact ⟨T, X, B, ⟨fun b hb hx => h6.old b hb (by rintro (h | h); exact hx h; omega), h6.room, h6.os, h6.tape, h6.output, h6.size⟩, h1⟩

theorem Sg.yield {ks : List Kd} {l : Nat} {all : List (aJ ks)} {J Jx : List (aJ ks) → (Nat → Prop) → (Nat → Prop) → World → Prop}
  (hY : ∀ pre e post T X B T' X' A us Gx m', all = pre ++ e :: post → J pre T X B → Stp X B A → (∀ b, T' b → (T b ∨ B.heap.size ≤ b) ∧ b < A.heap.size) → (∀ b, X' b → T' b ∧ (X b ∨ B.heap.size ≤ b)) →
   (∀ b, Gx b → (G0 b ∨ T' b) ∧ ¬ X' b) → VRs A (Gd.of Gx) aG (fQ ks e) us →
   YieldAt Fence.wide m' P l us.toArray A fun en C =>
    ((∀ b, b < A.heap.size → G0 b ∨ T' b → C.heap[b]? = A.heap[b]?) ∧ (∀ b n, Room A b n → Room C b n) ∧ A.heap.size ≤ C.heap.size) ∧ ((en = .returned (.bool true) ∧ J (pre ++ [e]) T' X' C) ∨ (en = .returned (.bool false) ∧ Jx (pre ++ [e]) T' X' C)))
  {pre post : List (aJ ks)} {e : aJ ks} (hall : all = pre ++ e :: post) {us : List Value} (h : Sg (J pre) G0 G μ H A) (hus : VRs A G aG (fQ ks e) us) (hpl : cK.noRows (fQ ks e) = true) (m' : Nat) :
  YieldAt Fence.wide m' P l us.toArray A fun en C => Mono A G μ C G μ ∧ ((en = .returned (.bool true) ∧ Sg (J (pre ++ [e])) G0 G μ H C) ∨ (en = .returned (.bool false) ∧ Sg (Jx (pre ++ [e])) G0 G μ H C)) := by
 obtain ⟨T, X, B, GB, μB, h1, h2, h3, h4, h5, h6, h7⟩ := h
 obtain ⟨T', hT'⟩ : ∃ T' : Nat → Prop, T' = fun b => T b ∨ (B.heap.size ≤ b ∧ b < A.heap.size) := ⟨_, rfl⟩
 obtain ⟨X', hX'⟩ : ∃ X' : Nat → Prop, X' = fun b => (∃ r k, H[r]? = some (some k) ∧ k.frozen = false ∧ μ.loc r = some b) ∨ ∃ j, G.row j = some b := ⟨_, rfl⟩
 have hGT : ∀ b, G b → G0 b ∨ T' b := by
  intro b hb
  have hlt := h7.lt b hb
  rw [hT']
  rcases h6.new b hb with h | h | h
  ·exact (h4 b h).imp id .inl
  ·exact .inr (.inl (h2 b h))
  ·exact .inr (.inr ⟨h, hlt⟩)
 have hXT : ∀ b, X' b → T' b ∧ (X b ∨ B.heap.size ≤ b) ∧ ¬ G b := by
  intro b hb
  rw [hX'] at hb
  rcases hb with ⟨r, k, g1, g2, g3⟩ | ⟨j, hj⟩
  case inr =>
   obtain ⟨s1, s2, s3, _⟩ := h7.rows.sep j b hj
   rw [hT']
   rcases s2 with h | h
   ·exact ⟨.inl (h2 b h), .inl h, s3⟩
   ·exact ⟨.inr ⟨h, s1⟩, .inr h, s3⟩
  obtain ⟨c, q1, _, _, _, q5⟩ := h7.blk r k b g1 g3
  have hlt := h7.fP g1 g3
  rw [hT']
  rcases (q5 g2).1 with h | h
  ·exact ⟨.inl (h2 b h), .inl h, (q5 g2).2⟩
  ·exact ⟨.inr ⟨h, hlt⟩, .inr h, (q5 g2).2⟩
 have hst : Stp X B A := ⟨fun b hb hx => h6.old b hb (by rintro (h | h); exact hx h; omega), h6.room, h6.os, h6.tape, h6.output, h6.size⟩
 obtain ⟨fn, tmps, as1, body, y1, y2⟩ := hY pre e post T X B T' X' A us G.ok m' hall h1 hst (fun b hb => by
  rw [hT'] at hb
  rcases hb with hb | hb
  ·exact ⟨.inl hb, Nat.lt_of_lt_of_le (h3 b hb) h6.size⟩
  ·exact ⟨.inr hb.1, hb.2⟩) (fun b hb => ⟨(hXT b hb).1, (hXT b hb).2.1⟩) (fun b hb => ⟨hGT b hb, fun hx => (hXT b hx).2.2 hb⟩) (jI (G := G) (G' := Gd.of G.ok) (fun b h => h) _ _ _ hpl hus)
 refine ⟨fn, tmps, as1, body, y1, y2.mono ?_⟩
 rintro en C ⟨⟨k1, k2, k3⟩, hout⟩
 have hgood : ∀ b, G b → C.heap[b]? = A.heap[b]? := fun b hb => k1 b (h7.lt b hb) (hGT b hb)
 have hmono : Mono A G μ C G μ := ⟨fun b hb => ⟨hb, hgood b hb⟩, fun _ _ h => h, fun _ _ h => h, k2, fun _ _ h => h⟩
 have hTs : ∀ b, T' b → b < C.heap.size := by
  intro b hb
  rw [hT'] at hb
  rcases hb with hb | hb
  ·have := h3 b hb; have := h6.size; omega
  ·omega
 have hwinv : aP (fun b => X' b ∨ C.heap.size ≤ b) G μ H C := by
  refine ⟨?_, h7.tags, h7.inj, h7.lt.step (fun b hb => ⟨hb, hgood b hb⟩) fun b hb => Nat.lt_of_lt_of_le (h7.lt b hb) k3, h7.top, fun b hb => .inr hb, (h7.rows.aLK (n1 := fun b => X' b ∨ C.heap.size ≤ b) fun j b hj _ => .inl (by rw [hX']; exact .inr ⟨j, hj⟩)).step hmono.aG k3 (fun _ => rfl) (fun j b hj => ⟨?_, id, fun r k h1 h2 h3 => ⟨r, k, h1, h2, h3⟩⟩) (fun r k _ _ h1 _ _ => ⟨k, h1, rfl, rfl, rfl, rfl⟩)⟩
  case refine_2 =>
   exact k1 b (h7.rows.sep j b hj).1 (.inr (hXT b (by rw [hX']; exact .inr ⟨j, hj⟩)).1)
  intro r k b hr hb
  obtain ⟨c, q1, q2, q3, q4, q5⟩ := h7.blk r k b hr hb
  have hx : k.frozen = false → X' b := fun hf => by rw [hX']; exact .inl ⟨r, k, hr, hf, hb⟩
  have heq : C.heap[b]? = A.heap[b]? := by
   cases hf : k.frozen with
   | true => exact hgood b (q4 hf)
   | false => exact k1 b (h7.fP hr hb) (.inr (hXT b (hx hf)).1)
  exact ⟨c, heq.trans q1, aN.mono hmono heq 0 _ q2, q3, q4, fun hf => ⟨.inl (hx hf), (q5 hf).2⟩⟩
 have key : ∀ {Ψ : (Nat → Prop) → (Nat → Prop) → World → Prop}, Ψ T' X' C → Sg Ψ G0 G μ H C := fun hψ =>
  ⟨T', X', C, G, μ, hψ, fun b hb => (hXT b hb).1, hTs, hGT, fun b hb => (h6.good b (h5 b hb)).1, Ext.refl _ _ _ _, hwinv⟩
 refine ⟨hmono, ?_⟩
 rcases hout with ⟨rfl, hj⟩ | ⟨rfl, hj⟩
 ·exact .inl ⟨rfl, key hj⟩
 ·exact .inr ⟨rfl, key hj⟩

variable {ops : Array Oper} {Q : Exit → Act → World → Prop}
theorem aPE {o : Oper} {c : Call} {f : Operand} {rest : List Oper} {l : Nat} {us : Array Value} {R : Ending → World → Prop} (ho : o.op = .call c) (hc : c.callee = .value f) (hw : Region.wanted o (yielded ops a.tmps) = true) (hf : a.eval f = .func (.yield l) #[] #[]) (hargs : c.args.map a.eval = us)
  (hy : ∀ m', YieldAt Fence.wide m' P l us A R) (hR : ∀ en C, R en C → ∃ v, en = .returned v ∧ wpListIn Fence.wide n P ops Q rest (a.put o.dst v) C) : wpListIn Fence.wide n P ops Q (o :: rest) a A := by
 obtain ⟨fn, tmps, as1, body, y1, y2⟩ := hy (n - 1)
 unfold wpListIn
 rw [if_pos hw]
 refine ⟨fun _ _ => trivial, ?_⟩
 have hd : ∀ c', o.op ≠ .defer c' := fun c' h => by rw [ho] at h; cases h
 have hs : (o.semAt none a.eval).run P A = .ok (.round l fn tmps as1 body) A := by
  rw [Oper.semAt_none]
  simp [execOp, ho, resolve, hc, hf, hargs, Deferred.ofValue, Sem.run_bind, Sem.run_pure, Result.andThen_ok, invoke, y1]
 show Oper.uponIn Fence.wide n P o a _ Q ((o.semAt none a.eval).run P A)
 rw [hs]
 refine ⟨fun h => (by cases h), y2.mono ?_⟩
 rintro e C he
 obtain ⟨v, rfl, h⟩ := hR e C he
 exact h
theorem aRI {o : Oper} {rest : List Oper} (hw : Region.wanted o (yielded ops a.tmps) = false) (h : wpListIn Fence.wide n P ops Q rest (a.put o.dst undef) A) : wpListIn Fence.wide n P ops Q (o :: rest) a A := by
 unfold wpListIn
 rw [if_neg (by rw [hw]; decide)]
 exact ⟨fun _ _ => trivial, h⟩
end
end Go.PM
