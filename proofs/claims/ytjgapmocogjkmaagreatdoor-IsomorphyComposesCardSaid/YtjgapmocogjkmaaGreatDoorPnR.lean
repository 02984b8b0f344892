/- The plain machine, frames with marks among the deferred calls, and rounds of a range over a func: regions there. No program. -/
import Derived.Test.YtjgapmocogjkmaaGreatDoorPmRc
import Derived.Test.YtjgapmocogjkmaaGreatDoorPnC
import Derived.OrdersIn
import Derived.TacticsIn
import Derived.RangeFuncRecord
import Derived.Sort.LoopGhostIn
import Derived.RangeFuncSeq
set_option linter.unusedSimpArgs false
set_option linter.unusedVariables false
namespace Go.PM
open Go Go.RowKit

/-- The fence of a function's frame (none) or of a round's. -/
@[reducible] def Fr (ro : Option Nat) : Fence := { Fence.wide with round := ro }
/-- The same activation with further deferred calls. -/
def addD (ds : List Deferred) (a : Act) : Act := { a with defers := a.defers ++ ds }
theorem addD_tmps (ds : List Deferred) (a : Act) : (addD ds a).tmps = a.tmps := rfl
theorem addD_eval (ds : List Deferred) (a : Act) : (addD ds a).eval = a.eval := by
  funext x; cases x <;> rfl
theorem addD_put (ds : List Deferred) (a : Act) (d : Option Tmp) (v : Value) : (addD ds a).put d v = addD ds (a.put d v) := by
  cases d <;> rfl
theorem callsIn_fr {ro : Option Nat} {n : Nat} {P : Program} {f : FuncId} {args : Array Value} {w : World} {R : Ending → World → Prop} (h : Calls P f args w R) : CallsIn (Fr ro) n P f args w R :=
  (callsIn_wide (n := n)).2 h
theorem rowsIn_fr {ro : Option Nat} {n : Nat} {P : Program} {row : String} {args : Array Value} {w : World} {R : Value → World → Prop} (h : Rows P row args w R) : RowsIn (Fr ro) n P row args w R :=
  fun c cs _ => let ⟨v, w', r, s⟩ := h c cs; ⟨v, w', r, stepsIn_wide.2 s⟩

section
variable {P : Program} {ro : Option Nat} {n : Nat} {ds : List Deferred} {Q Q' : Exit → Act → World → Prop}

def isDefer : Op → Bool
  | .defer _ => true
  | _ => false
def noDefer (ops : Array Oper) : Bool := ops.toList.all fun o => !isDefer o.op
theorem noDefer_get {ops : Array Oper} (h : noDefer ops = true) {o : Oper} (ho : o ∈ ops.toList) : ∀ c, o.op ≠ .defer c := by
  intro c hc
  have := List.all_eq_true.1 h o ho
  rw [hc] at this
  cases this
theorem semAt_fr {o : Oper} (h : ∀ c, o.op ≠ .defer c) (ρ : Operand → Value) : o.semAt ro ρ = execOp ρ o := by
  cases ro with
  | none => exact Oper.semAt_none ρ o
  | some l => exact Oper.semAt_some l ρ o h

theorem oper_in {o : Oper} {a : Act} {w : World} {K K' : Act → World → Prop} (hd : ∀ c, o.op ≠ .defer c) (hK : ∀ a w, K a w → K' (addD ds a) w) (hQ : ∀ ch a w, Q (.panic ch) a w → Q' (.panic ch) (addD ds a) w) (hno : ∀ a w, ¬ Q .outgrown a w) (h : o.wp P a w K Q) :
    o.wpIn (Fr ro) n P (addD ds a) w K' Q' := by
  refine ⟨fun _ _ => trivial, ?_⟩
  unfold Oper.wp at h
  rw [addD_eval, semAt_fr hd]
  generalize (execOp a.eval o).run P w = r at h ⊢
  cases r with
  | ok x w' =>
    cases x with
    | value v => show K' ((addD ds a).put o.dst v) w'; rw [addD_put]; exact hK _ _ h
    | skip => show K' ((addD ds a).put o.dst undef) w'; rw [addD_put]; exact hK _ _ h
    | defer d =>
      have := hK _ _ h
      show K' (({ addD ds a with defers := d :: (addD ds a).defers } : Act).put o.dst undef) w'
      have e : (({ addD ds a with defers := d :: (addD ds a).defers } : Act).put o.dst undef) = addD ds (({ a with defers := d :: a.defers } : Act).put o.dst undef) := by
        cases o.dst <;> rfl
      rw [e]; exact this
    | enter f args =>
      refine ⟨fun h => (by cases h), callsIn_fr (Calls.mono h ?_)⟩
      rintro e w'' he
      cases e with
      | returned v => show K' ((addD ds a).put o.dst v) w''; rw [addD_put]; exact hK _ _ he
      | panicked ch => exact hQ _ _ _ he
      | outgrown =>
        obtain ⟨a0, w0, h0⟩ := he
        exact (hno a0 w0 h0).elim
    | row row args => exact ⟨fun h => (by cases h), rowsIn_fr (Rows.mono h fun v w'' he => by show K' ((addD ds a).put o.dst v) w''; rw [addD_put]; exact hK _ _ he)⟩
    | _ => exact h.elim
  | halt x w' =>
    cases x <;> first | exact hQ _ _ _ h | exact h.elim

theorem list_in {ops : Array Oper} (hno : ∀ a w, ¬ Q .outgrown a w) (hQ : ∀ e a w, Q e a w → Q' e (addD ds a) w) : ∀ {l : List Oper}, (∀ o ∈ l, ∀ c, o.op ≠ .defer c) → ∀ {a w}, wpList P ops Q l a w → wpListIn (Fr ro) n P ops Q' l (addD ds a) w
  | [], _, a, w, h => hQ _ _ _ h
  | o :: l, hd, a, w, h => by
    simp only [wpList] at h
    unfold wpListIn
    split at h
    · rename_i hw
      have hw' : Region.wanted o (yielded ops (addD ds a).tmps) = true := hw
      rw [if_pos hw']
      rcases h with h | ⟨_, a0, w0, h0⟩
      · exact oper_in (hd o List.mem_cons_self) (fun a w hk => list_in hno hQ (fun o ho => hd o (List.mem_cons_of_mem _ ho)) hk) (fun _ _ _ h => hQ _ _ _ h) hno h
      · exact (hno a0 w0 h0).elim
    · rename_i hw
      have hw' : ¬ Region.wanted o (yielded ops (addD ds a).tmps) = true := hw
      rw [if_neg hw']
      refine ⟨fun _ _ => trivial, ?_⟩
      rw [addD_put]
      exact list_in hno hQ (fun o ho => hd o (List.mem_cons_of_mem _ ho)) h

theorem any_in {ops : Array Oper} {md : Region.Mode} (hno : ∀ a w, ¬ Q .outgrown a w) (hQ : ∀ e a w, Q e a w → Q' e (addD ds a) w) (hd : ∀ o ∈ ops.toList, ∀ c, o.op ≠ .defer c) : ∀ {fuel : Nat} {listed : Array Bool} {a w}, wpAny P md ops Q fuel listed a w → wpAnyIn (Fr ro) n P md ops Q' fuel listed (addD ds a) w
  | 0, listed, a, w, h => ⟨h.1, hQ _ _ _ h.2⟩
  | fuel + 1, listed, a, w, h => by
    refine ⟨fun hr => hQ _ _ _ (h.1 hr), fun i hi => ?_⟩
    have h2 := h.2 i hi
    unfold wpOp at h2
    unfold wpOpIn
    split
    · rename_i hn
      rw [hn] at h2
      exact any_in hno hQ hd h2
    · rename_i o ho
      rw [ho] at h2
      simp only at h2
      have hm : o ∈ ops.toList := by
        rw [← Array.getElem?_toList] at ho
        exact List.mem_of_getElem? ho
      split at h2
      · rename_i hw
        have hw' : Region.wanted o (yielded ops (addD ds a).tmps) = true := hw
        rw [if_pos hw']
        rcases h2 with h2 | ⟨_, a0, w0, h0⟩
        · exact oper_in (hd o hm) (fun a w hk => any_in hno hQ hd hk) (fun _ _ _ h => hQ _ _ _ h) hno h2
        · exact (hno a0 w0 h0).elim
      · rename_i hw
        have hw' : ¬ Region.wanted o (yielded ops (addD ds a).tmps) = true := hw
        rw [if_neg hw']
        refine ⟨fun _ _ => trivial, ?_⟩
        rw [addD_put]
        exact any_in hno hQ hd h2
end

/-- Marks of ranges over funcs: their blocks hold no call, and nobody else knows them. -/
def Marks (wi w : World) (G : Nat → Prop) : List Deferred → Prop
  | [] => True
  | d :: ds => (∃ b, d = { target := .collected b, args := #[] } ∧ w.heap[b]? = some (.deferred (some [])) ∧ wi.heap.size ≤ b ∧ ¬ G b ∧ ∀ d' ∈ ds, d' ≠ d) ∧ Marks wi w G ds
theorem Marks.mem {wi w : World} {G : Nat → Prop} : ∀ {ds : List Deferred}, Marks wi w G ds → ∀ d ∈ ds, ∃ b, d = { target := .collected b, args := #[] } ∧ w.heap[b]? = some (.deferred (some [])) ∧ wi.heap.size ≤ b ∧ ¬ G b
  | [], _, d, hd => by cases hd
  | x :: ds, h, d, hd => by
    rcases List.mem_cons.1 hd with rfl | hd
    · obtain ⟨b, h1, h2, h3, h4, _⟩ := h.1
      exact ⟨b, h1, h2, h3, h4⟩
    · exact Marks.mem h.2 d hd
theorem Marks.to {wi w w' : World} {G G' : Nat → Prop} : ∀ {ds : List Deferred}, Marks wi w G ds → (∀ b, ({ target := .collected b, args := #[] } : Deferred) ∈ ds → w.heap[b]? = some (.deferred (some [])) → ¬ G b → w'.heap[b]? = some (.deferred (some [])) ∧ ¬ G' b) → Marks wi w' G' ds
  | [], _, _ => trivial
  | x :: ds, h, hs => by
    obtain ⟨⟨b, rfl, h2, h3, h4, h5⟩, h6⟩ := h
    obtain ⟨k1, k2⟩ := hs b List.mem_cons_self h2 h4
    exact ⟨⟨b, rfl, k1, h3, k2, h5⟩, Marks.to h6 fun b hb => hs b (List.mem_cons_of_mem _ hb)⟩

/-- As I, with marks among the deferred calls. -/
def IM (n0 : Nat → Prop) (wi : World) (Gi : Nat → Prop) (μi : Mp) (nt : Nat) (F : Frm) (H : Heap) (a : Act) (w : World) : Prop :=
  ∃ G μ, Ext n0 wi Gi μi w G μ ∧ WInv n0 G μ H w ∧ FInv w G μ nt F { a with defers := [] } ∧ Marks wi w G a.defers

section
variable {P : Program} {E : Env} {n0 n1 : Nat → Prop} {w w' wi : World} {G G' Gi : Nat → Prop} {μ μ' μi : Mp} {H : Heap} {F : Frm} {a : Act} {nt : Nat}

theorem Ext.wider (h : Ext n1 w G μ w' G' μ') (hn : ∀ b, n1 b → n0 b) : Ext n0 w G μ w' G' μ' :=
  ⟨h.toMono, h.os, h.tape, h.output, h.size, h.drawn, fun b hb hnb => h.old b hb fun h1 => hnb (hn b h1), fun b hb => (h.new b hb).imp id (hn b)⟩
theorem WInv.wider (h : WInv n1 G μ H w) (hn : ∀ b, n1 b → n0 b) : WInv n0 G μ H w :=
  ⟨fun r k b hr hb => by
    obtain ⟨c, h1, h2, h3, h4, h5⟩ := h.blk r k b hr hb
    exact ⟨c, h1, h2, h3, h4, fun hf => ⟨hn b (h5 hf).1, (h5 hf).2⟩⟩, h.tags, h.inj, h.lt, h.top, fun b hb => hn b (h.base b hb)⟩
/-- Blocks that the heap does not hold need not be written. -/
theorem WInv.less (h : WInv n0 G μ H w) {S : Nat → Prop} (hS : ∀ b, S b → b < w.heap.size ∧ ∀ c t fr, w.heap[b]? ≠ some (.cells c t fr)) : WInv (fun b => n0 b ∧ ¬ S b) G μ H w :=
  ⟨fun r k b hr hb => by
    obtain ⟨c, h1, h2, h3, h4, h5⟩ := h.blk r k b hr hb
    exact ⟨c, h1, h2, h3, h4, fun hf => ⟨⟨(h5 hf).1, fun hs => (hS b hs).2 _ _ _ h1⟩, (h5 hf).2⟩⟩, h.tags, h.inj, h.lt, h.top, fun b hb => ⟨h.base b hb, fun hs => Nat.lt_irrefl _ (Nat.lt_of_lt_of_le (hS b hs).1 hb)⟩⟩
theorem FInv.same (h : FInv w G μ nt F a) : FInv w G μ nt F { a with defers := [] } := ⟨h.size, h.slot, rfl⟩
theorem I.toIM (h : I n0 wi Gi μi nt F H a w) : IM n0 wi Gi μi nt F H a w := by
  obtain ⟨G, μ, e, hW, hF⟩ := h
  refine ⟨G, μ, e, hW, hF.same, ?_⟩
  rw [hF.defers]; trivial


/-- A region, in a frame with marks or in a round's. -/
theorem regionK_in {nt : Nat} {id : Nat} {ops : Array Oper} {draw : Bool} {F : Frm} {H : Heap} {α : Type} {z : α} {k : Frm → Heap → Option α} (hcl : CalleeOK P (calleeE P E)) (hP : P.follows .mixedOrders = true) (hd : noDefer ops = true) (h : regionK P E nt ops draw F H k = some z) :
    ∃ F' H', k F' H' = some z ∧ ∀ {ro : Option Nat} {n : Nat} {n0 wi Gi μi} {a w} {Q : Exit → Act → World → Prop}, IM n0 wi Gi μi nt F H a w → (∀ a' w', a'.defers = a.defers → IM n0 wi Gi μi nt F' H' a' w' → Q .normal a' w') → (Code.region id ops draw).wpIn (Fr ro) n P Q a w := by
  have core : ∃ F' H', k F' H' = some z ∧ ∀ {ro : Option Nat} {n : Nat} {n0 wi Gi μi} {a w} {ds : List Deferred} {Q : Exit → Act → World → Prop}, I n0 wi Gi μi nt F H a w → (∀ a' w', I n0 wi Gi μi nt F' H' a' w' → Q .normal (addD ds a') w') → (Code.region id ops draw).wpIn (Fr ro) n P Q (addD ds a) w := by
    cases draw with
    | true =>
      obtain ⟨F', H', h2, h3⟩ := regionK_draw h
      refine ⟨F', H', h3, ?_⟩
      intro ro n n0 wi Gi μi a w ds Q hI hQ
      refine wpIn_region_any hP (any_in (Q := fun e a' w' => e = .normal ∧ I n0 wi Gi μi nt F' H' a' w') (fun a w h => by cases h.1) (fun e a' w' h => by obtain ⟨rfl, h⟩ := h; exact hQ a' w' h) (fun o ho => noDefer_get hd ho) ?_)
      exact runDraw_any hcl h2 hI (fun a' w' h => ⟨rfl, h⟩)
    | false =>
      unfold regionK at h
      simp only [cond_false] at h
      obtain ⟨F', H', h2, h3⟩ := runOpsK_some h
      refine ⟨F', H', h3, ?_⟩
      intro ro n n0 wi Gi μi a w ds Q hI hQ
      refine wpIn_region_list (list_in (Q := fun e a' w' => e = .normal ∧ I n0 wi Gi μi nt F' H' a' w') (fun a w h => by cases h.1) (fun e a' w' h => by obtain ⟨rfl, h⟩ := h; exact hQ a' w' h) (fun o ho => noDefer_get hd ho) ?_)
      exact runOps_sound hcl ops.toList F H _ _ h2 hI (fun a' w' h => ⟨rfl, h⟩)
  obtain ⟨F', H', h1, h2⟩ := core
  refine ⟨F', H', h1, ?_⟩
  intro ro n n0 wi Gi μi a w Q hI hQ
  obtain ⟨G, μ, e, hW, hF, hm⟩ := hI
  have hS : ∀ b, ({ target := .collected b, args := #[] } : Deferred) ∈ a.defers → b < w.heap.size ∧ ∀ c t fr, w.heap[b]? ≠ some (.cells c t fr) := by
    intro b hb
    obtain ⟨b', e1, e2, _⟩ := hm.mem _ hb
    have : b = b' := by injection e1 with e1 _; injection e1
    subst this
    exact ⟨heap_lt e2, fun c t fr h => by rw [e2] at h; cases h⟩
  have e0 : a = addD a.defers { a with defers := [] } := rfl
  rw [e0]
  refine h2 (n0 := fun b => n0 b ∧ ¬ ({ target := .collected b, args := #[] } : Deferred) ∈ a.defers) (wi := w) (Gi := G) (μi := μ) ⟨G, μ, Ext.refl _ _ _ _, hW.less hS, hF⟩ ?_
  rintro a' w' ⟨G', μ', e', hW', hF'⟩
  have hW2 : WInv n0 G' μ' H' w' := hW'.wider fun b hb => hb.1
  have hdef : (addD a.defers a').defers = a.defers := by
    show a'.defers ++ a.defers = a.defers
    rw [hF'.defers]; rfl
  refine hQ _ _ hdef ⟨G', μ', e.trans (e'.wider fun b hb => hb.1), hW2, hF'.same, ?_⟩
  rw [hdef]
  refine hm.to fun b hb h1 h2 => ⟨?_, fun hg => ?_⟩
  · rw [e'.old b (hS b hb).1 (fun h => h.2 hb)]; exact h1
  · rcases e'.new b hg with h | h
    · exact h2 h
    · exact h.2 hb
end
end Go.PM

/- The plain machine with ranges over funcs: open runs in frames and in rounds. No program. -/
set_option linter.unusedSimpArgs false
set_option linter.unusedVariables false
namespace Go.PM
open Go Go.RowKit

def decExR (T : List Nat) : (l : List (Ex × List (Nat × Kd))) → Ex → Frm → Heap → Option (exDen l)
  | [], _, _, _ => none
  | [(e, s)], ex, F, H => bif exEq e ex then decHeadR T s F H else none
  | (e, s) :: b :: r, ex, F, H => bif exEq e ex then (match decHeadR T s F H with | some x => some (.inl x) | none => none) else (match decExR T (b :: r) ex F H with | some y => some (.inr y) | none => none)
section
variable {α : Type} (P : Program) (E : Env) (nt keep : Nat) (lt rt : Nat → Option LSpec) (rd : Bool) (T : List Nat)
def execR : Code → Frm → Heap → (Ex → Frm → Heap → Option α) → Option α
  | .skip, F, H, k => k .normal F H
  | .label _, F, H, k => k .normal F H
  | .region _ ops draw, F, H, k => bif noDefer ops then regionK P E nt ops draw F H fun F H => keepF keep F fun F => k .normal F H else none
  | .seq a b, F, H, k => execR a F H fun ex F H => match ex with
    | .normal => execR b F H k
    | .exit i => k (.exit i) F H
    | .ret => k .ret F H
  | .cond c a b, F, H, k => match ev F c with
    | .lit (.bool t) => askT F c t fun F t => bif t then execR a F H k else execR b F H k
    | _ => none
  | .block id a, F, H, k => execR a F H fun ex F H => match ex with
    | .exit i => bif Nat.beq i id then k .normal F H else k (.exit i) F H
    | .normal => k .normal F H
    | .ret => k .ret F H
  | .loop a, F, H, k => match lt (firstRegion a) with
    | some s => match decHeadR T s.sh F H with
      | some x => askO (s.run x) fun z => outK s.exits z k
      | none => none
    | none => none
  | .rangeFunc _ _ _ a, F, H, k => bif rd then none else match rt (firstRegion a) with
    | some s => match decHeadR T s.sh F H with
      | some x => askO (s.run x) fun z => outK s.exits z k
      | none => none
    | none => none
  | .exit id, F, H, k => k (.exit id) F H
  | .ret, F, H, k => k .ret F H
  | _, _, _, _ => none
def leafR (T : List Nat) (sh : List (Nat × Kd)) (exits : List (Ex × List (Nat × Kd))) (ex : Ex) (F : Frm) (H : Heap) : Option (Shape.den sh ⊕ exDen exits) := match ex with
  | .normal => match decHeadR T sh F H with
    | some y => some (.inl y)
    | none => none
  | .exit i => match decExR T exits (.exit i) F H with
    | some z => some (.inr z)
    | none => none
  | .ret => match decExR T exits .ret F H with
    | some z => some (.inr z)
    | none => none
/-- One round of a loop. -/
def roundR (a : Code) (sh : List (Nat × Kd)) (exits : List (Ex × List (Nat × Kd))) (x : Shape.den sh) : Option (Shape.den sh ⊕ exDen exits) :=
  execR P E nt keep lt rt rd T a (encF sh x 0) (encH sh x) (leafR T sh exits)
end
/-- The loops and ranges of a code, not those within them. -/
def subsOf : Code → List Code
  | .seq a b => subsOf a ++ subsOf b
  | .cond _ a b => subsOf a ++ subsOf b
  | .block _ a => subsOf a
  | .loop a => [.loop a]
  | .rangeFunc g ps as a => [.rangeFunc g ps as a]
  | _ => []

section
variable {α : Type} {P : Program} {E : Env} {nt keep : Nat} {lt rt : Nat → Option LSpec} {rd : Bool} {T : List Nat}

/-- The code goes from this state to that end. -/
def RunsR (P : Program) (nt : Nat) (rd : Bool) (T : List Nat) (c : Code) (F : Frm) (H : Heap) (r : Ex × Frm × Heap) : Prop :=
  ∀ (ro : Option Nat) (n : Nat) (n0 : Nat → Prop) (wi : World) (Gi : Nat → Prop) (μi : Mp) (a : Act) (w : World), (rd = false → ro = none) → (∀ r, ¬ r ∈ T → μi.loc r = none ∧ μi.len r = none) → IM n0 wi Gi μi nt F H a w →
    c.wpIn (Fr ro) n P (fun e a' w' => e = r.1.to ∧ IM n0 wi Gi μi nt r.2.1 r.2.2 a' w' ∧ (rd = true → a'.defers = a.defers)) a w
def SpecR (P : Program) (nt : Nat) (rd : Bool) (T : List Nat) (c : Code) (s : LSpec) : Prop :=
  ∀ x z, s.run x = some z → RunsR P nt rd T c (encF s.sh x 0) (encH s.sh x) (outX s.exits z)
def SubOK (P : Program) (nt : Nat) (lt rt : Nat → Option LSpec) (rd : Bool) (T : List Nat) : Code → Prop
  | .loop a => ∀ s, lt (firstRegion a) = some s → SpecR P nt rd T (.loop a) s
  | .rangeFunc g ps as a => rd = false → ∀ s, rt (firstRegion a) = some s → SpecR P nt rd T (.rangeFunc g ps as a) s
  | _ => True

theorem IM.weak {n0 : Nat → Prop} {wi : World} {Gi : Nat → Prop} {μi : Mp} {F F' : Frm} {H : Heap} {a : Act} {w : World} (h : IM n0 wi Gi μi nt F H a w) (hF : ∀ t, fget F' t = fget F t ∨ fget F' t = .junk) : IM n0 wi Gi μi nt F' H a w := by
  obtain ⟨G, μ, e, hW, hI, hm⟩ := h
  refine ⟨G, μ, e, hW, ⟨hI.size, fun t => ?_, rfl⟩, hm⟩
  rcases hF t with h1 | h1
  · rw [h1]; exact hI.slot t
  · rw [h1, VR]; trivial
/-- What is said of the state in the same world serves with marks too. -/
theorem IM.same {n0 : Nat → Prop} {wi : World} {Gi : Nat → Prop} {μi : Mp} {F F' : Frm} {H H' : Heap} {a : Act} {w : World} (hfl : ∀ r, ¬ r ∈ T → μi.loc r = none ∧ μi.len r = none)
    (hs : ∀ {n0 : Nat → Prop} {wi : World} {Gi : Nat → Prop} {μi : Mp} {a : Act}, (∀ r, ¬ r ∈ T → μi.loc r = none ∧ μi.len r = none) → I n0 wi Gi μi nt F H a w → I n0 wi Gi μi nt F' H' a w) (h : IM n0 wi Gi μi nt F H a w) : IM n0 wi Gi μi nt F' H' a w := by
  obtain ⟨G, μ, e, hW, hF, hm⟩ := h
  have hS : ∀ b, ({ target := .collected b, args := #[] } : Deferred) ∈ a.defers → b < w.heap.size ∧ ∀ c t fr, w.heap[b]? ≠ some (.cells c t fr) := by
    intro b hb
    obtain ⟨b', e1, e2, _⟩ := hm.mem _ hb
    have : b = b' := by injection e1 with e1 _; injection e1
    subst this
    exact ⟨heap_lt e2, fun c t fr h => by rw [e2] at h; cases h⟩
  have e0 : Ext (fun b => n0 b ∧ ¬ ({ target := .collected b, args := #[] } : Deferred) ∈ a.defers) w G μi w G μ := ⟨⟨fun _ h => ⟨h, rfl⟩, e.map, e.len, fun _ _ h => h⟩, rfl, rfl, rfl, Nat.le_refl _, Nat.le_refl _, fun _ _ _ => rfl, fun _ h => .inl h⟩
  obtain ⟨G', μ', e', hW', hF'⟩ := hs (n0 := fun b => n0 b ∧ ¬ ({ target := .collected b, args := #[] } : Deferred) ∈ a.defers) (wi := w) (Gi := G) (μi := μi) (a := { a with defers := [] }) hfl ⟨G, μ, e0, hW.less hS, hF⟩
  refine ⟨G', μ', ?_, hW'.wider fun b hb => hb.1, hF', hm.to fun b hb h1 h2 => ⟨h1, fun hg => ?_⟩⟩
  · exact {
      good := fun b hb => ⟨(e'.good b (e.good b hb).1).1, (e.good b hb).2⟩
      map := e'.map
      len := e'.len
      room := e.room
      os := e.os
      tape := e.tape
      output := e.output
      size := e.size
      drawn := e.drawn
      old := e.old
      new := fun b hb => by
        rcases e'.new b hb with h | h
        · exact e.new b h
        · exact .inr h.1 }
  · rcases e'.new b hg with h | h
    · exact h2 h
    · exact h.2 hb

theorem IM.dec {n0 : Nat → Prop} {wi : World} {Gi : Nat → Prop} {μi : Mp} {F : Frm} {H : Heap} {a : Act} {w : World} (hfl : ∀ r, ¬ r ∈ T → μi.loc r = none ∧ μi.len r = none) {sh : List (Nat × Kd)} {x : Shape.den sh} (h : decHeadR T sh F H = some x) (hI : IM n0 wi Gi μi nt F H a w) : IM n0 wi Gi μi nt (encF sh x 0) (encH sh x) a w :=
  hI.same hfl fun hfl hI => decHeadR_sound h hfl hI
theorem decExR_shape {ex : Ex} {F : Frm} {H : Heap} : ∀ {l : List (Ex × List (Nat × Kd))} {z : exDen l}, decExR T l ex F H = some z →
    (outX l z).1 = ex ∧ ∃ sh, ∃ x : Shape.den sh, decHeadR T sh F H = some x ∧ (outX l z).2.1 = encF sh x 0 ∧ (outX l z).2.2 = encH sh x
  | [], z, _ => Empty.elim z
  | [(e, s)], z, h => by
    simp only [decExR] at h
    obtain ⟨hb, h⟩ := condSome h
    exact ⟨exEq_eq hb, s, z, h, rfl, rfl⟩
  | (e, s) :: b :: r, z, h => by
    simp only [decExR] at h
    cases hb : exEq e ex with
    | true =>
      rw [hb] at h
      simp only [cond_true] at h
      split at h
      · rename_i x hx
        simp only [Option.some.injEq] at h
        subst h
        exact ⟨exEq_eq hb, s, x, hx, rfl, rfl⟩
      · cases h
    | false =>
      rw [hb] at h
      simp only [cond_false] at h
      split at h
      · rename_i x hx
        simp only [Option.some.injEq] at h
        subst h
        exact decExR_shape (l := b :: r) (z := x) hx
      · cases h
theorem IM.decEx {n0 : Nat → Prop} {wi : World} {Gi : Nat → Prop} {μi : Mp} {F : Frm} {H : Heap} {a : Act} {w : World} {ex : Ex} (hfl : ∀ r, ¬ r ∈ T → μi.loc r = none ∧ μi.len r = none) {l : List (Ex × List (Nat × Kd))} {z : exDen l} (h : decExR T l ex F H = some z) (hI : IM n0 wi Gi μi nt F H a w) :
    (outX l z).1 = ex ∧ IM n0 wi Gi μi nt (outX l z).2.1 (outX l z).2.2 a w := by
  obtain ⟨h1, sh, x, h2, h3, h4⟩ := decExR_shape h
  exact ⟨h1, by rw [h3, h4]; exact hI.dec hfl h2⟩

theorem execR_sound (hcl : CalleeOK P (calleeE P E)) (hP : P.follows .mixedOrders = true) : ∀ (c : Code) (F : Frm) (H : Heap) (k : Ex → Frm → Heap → Option α) (z : α), (∀ a ∈ subsOf c, SubOK P nt lt rt rd T a) →
    execR P E nt keep lt rt rd T c F H k = some z → ∃ r : Ex × Frm × Heap, k r.1 r.2.1 r.2.2 = some z ∧ RunsR P nt rd T c F H r
  | .skip, F, H, k, z, hl, h => ⟨(.normal, F, H), h, fun _ _ _ _ _ _ _ _ _ _ hI => wpIn_skip ⟨rfl, hI, fun _ => rfl⟩⟩
  | .label l, F, H, k, z, hl, h => ⟨(.normal, F, H), h, fun _ _ _ _ _ _ _ _ _ _ hI => wpIn_label ⟨rfl, hI, fun _ => rfl⟩⟩
  | .region id ops draw, F, H, k, z, hl, h => by
    simp only [execR] at h
    obtain ⟨hd, h⟩ := condSome h
    obtain ⟨F1, H1, h1, h2⟩ := regionK_in (id := id) hcl hP hd h
    obtain ⟨F2, h3, h4⟩ := keepF_frm keep F1 fun F => k .normal F H1
    rw [h3] at h1
    exact ⟨(.normal, F2, H1), h1, fun _ _ _ _ _ _ _ _ _ _ hI => h2 hI fun a' w' hd' hI' => ⟨rfl, hI'.weak h4, fun _ => hd'⟩⟩
  | .seq x y, F, H, k, z, hl, h => by
    simp only [execR] at h
    obtain ⟨⟨ex, F1, H1⟩, h1, h2⟩ := execR_sound hcl hP x F H _ z (fun a ha => hl a (by simp [subsOf, ha])) h
    cases ex with
    | normal =>
      obtain ⟨r, h3, h4⟩ := execR_sound hcl hP y F1 H1 k z (fun a ha => hl a (by simp [subsOf, ha])) h1
      refine ⟨r, h3, fun ro n n0 wi Gi μi a w hro hfl hI => wpIn_seq (wpIn_mono (h2 ro n n0 wi Gi μi a w hro hfl hI) ?_)⟩
      rintro e a' w' ⟨rfl, hI', hd'⟩
      refine wpIn_mono (h4 ro n n0 wi Gi μi a' w' hro hfl hI') ?_
      rintro e a'' w'' ⟨e1, e2, e3⟩
      exact ⟨e1, e2, fun hr => (e3 hr).trans (hd' hr)⟩
    | exit i =>
      refine ⟨(.exit i, F1, H1), h1, fun ro n n0 wi Gi μi a w hro hfl hI => wpIn_seq (wpIn_mono (h2 ro n n0 wi Gi μi a w hro hfl hI) ?_)⟩
      rintro e a' w' ⟨rfl, hI'⟩
      exact ⟨rfl, hI'⟩
    | ret =>
      refine ⟨(.ret, F1, H1), h1, fun ro n n0 wi Gi μi a w hro hfl hI => wpIn_seq (wpIn_mono (h2 ro n n0 wi Gi μi a w hro hfl hI) ?_)⟩
      rintro e a' w' ⟨rfl, hI'⟩
      exact ⟨rfl, hI'⟩
  | .cond c x y, F, H, k, z, hl, h => by
    simp only [execR] at h
    split at h
    · rename_i t ht
      replace h := askT_some h ht
      have hc : ∀ {n0 wi Gi μi a w}, IM n0 wi Gi μi nt F H a w → a.eval c = .bool t := fun {n0 wi Gi μi a w} hI => by
        obtain ⟨G, μ, e, hW, hF, _⟩ := hI
        have hc := ev_vr hF c
        rw [ht, VR] at hc
        rw [← hc]
        cases c <;> rfl
      cases t with
      | true =>
        obtain ⟨r, h3, h4⟩ := execR_sound hcl hP x F H k z (fun a ha => hl a (by simp [subsOf, ha])) h
        exact ⟨r, h3, fun ro n n0 wi Gi μi a w hro hfl hI => wpIn_cond (hc hI) (h4 ro n n0 wi Gi μi a w hro hfl hI)⟩
      | false =>
        obtain ⟨r, h3, h4⟩ := execR_sound hcl hP y F H k z (fun a ha => hl a (by simp [subsOf, ha])) h
        exact ⟨r, h3, fun ro n n0 wi Gi μi a w hro hfl hI => wpIn_cond (hc hI) (h4 ro n n0 wi Gi μi a w hro hfl hI)⟩
    · cases h
  | .block id x, F, H, k, z, hl, h => by
    simp only [execR] at h
    obtain ⟨⟨ex, F1, H1⟩, h1, h2⟩ := execR_sound hcl hP x F H _ z (fun a ha => hl a (by simp [subsOf, ha])) h
    cases ex with
    | normal =>
      refine ⟨(.normal, F1, H1), h1, fun ro n n0 wi Gi μi a w hro hfl hI => wpIn_block (wpIn_mono (h2 ro n n0 wi Gi μi a w hro hfl hI) ?_)⟩
      rintro e a' w' ⟨rfl, hI'⟩
      exact ⟨rfl, hI'⟩
    | ret =>
      refine ⟨(.ret, F1, H1), h1, fun ro n n0 wi Gi μi a w hro hfl hI => wpIn_block (wpIn_mono (h2 ro n n0 wi Gi μi a w hro hfl hI) ?_)⟩
      rintro e a' w' ⟨rfl, hI'⟩
      exact ⟨rfl, hI'⟩
    | exit i =>
      simp only at h1
      cases hi : Nat.beq i id with
      | true =>
        rw [hi] at h1
        have := Nat.eq_of_beq_eq_true hi
        subst this
        refine ⟨(.normal, F1, H1), h1, fun ro n n0 wi Gi μi a w hro hfl hI => wpIn_block (wpIn_mono (h2 ro n n0 wi Gi μi a w hro hfl hI) ?_)⟩
        rintro e a' w' ⟨rfl, hI'⟩
        simp only [Ex.to, Exit.inBlock, if_true]
        exact ⟨trivial, hI'⟩
      | false =>
        rw [hi] at h1
        have hne : ¬ i = id := fun e => by rw [e] at hi; simp at hi
        refine ⟨(.exit i, F1, H1), h1, fun ro n n0 wi Gi μi a w hro hfl hI => wpIn_block (wpIn_mono (h2 ro n n0 wi Gi μi a w hro hfl hI) ?_)⟩
        rintro e a' w' ⟨rfl, hI'⟩
        simp only [Ex.to, Exit.inBlock, hne, if_false]
        exact ⟨trivial, hI'⟩
  | .loop x, F, H, k, z, hl, h => by
    simp only [execR] at h
    split at h
    · rename_i s hs
      split at h
      · rename_i x0 hx
        obtain ⟨y, h1, h2⟩ := askO_some h
        exact ⟨outX s.exits y, outK_some h2, fun ro n n0 wi Gi μi a w hro hfl hI => hl (.loop x) (by simp [subsOf]) s hs x0 y h1 ro n n0 wi Gi μi a w hro hfl (hI.dec hfl hx)⟩
      · cases h
    · cases h
  | .rangeFunc g ps as x, F, H, k, z, hl, h => by
    simp only [execR] at h
    cases hrd : rd with
    | true => rw [hrd] at h; cases h
    | false =>
      rw [hrd] at h
      simp only [cond_false] at h
      split at h
      · rename_i s hs
        split at h
        · rename_i x0 hx
          obtain ⟨y, h1, h2⟩ := askO_some h
          refine ⟨outX s.exits y, outK_some h2, fun ro n n0 wi Gi μi a w hro hfl hI => ?_⟩
          have := hl (.rangeFunc g ps as x) (by simp [subsOf]) hrd s hs x0 y h1 ro n n0 wi Gi μi a w (by rw [hrd]; exact hro) hfl (hI.dec hfl hx)
          rw [hrd] at this
          exact this
        · cases h
      · cases h
  | .exit id, F, H, k, z, hl, h => ⟨(.exit id, F, H), h, fun _ _ _ _ _ _ _ _ _ _ hI => wpIn_exit ⟨rfl, hI, fun _ => rfl⟩⟩
  | .scope x, F, H, k, z, hl, h => by simp only [execR] at h; cases h
  | .ret, F, H, k, z, hl, h => ⟨(.ret, F, H), h, fun _ _ _ _ _ _ _ _ _ _ hI => wpIn_ret ⟨rfl, hI, fun _ => rfl⟩⟩
  | .goto l, F, H, k, z, hl, h => by simp only [execR] at h; cases h
  | .refuse s, F, H, k, z, hl, h => by simp only [execR] at h; cases h

theorem leafR_out {sh : List (Nat × Kd)} {exits : List (Ex × List (Nat × Kd))} {ex : Ex} {F : Frm} {H : Heap} {y : Shape.den sh ⊕ exDen exits} (h : leafR T sh exits ex F H = some y) :
    (∃ x, y = .inl x ∧ ex = .normal ∧ decHeadR T sh F H = some x) ∨ (∃ z, y = .inr z ∧ ex ≠ .normal ∧ decExR T exits ex F H = some z) := by
  cases ex with
  | normal =>
    simp only [leafR] at h
    split at h
    · rename_i x hx
      exact .inl ⟨x, (Option.some.inj h).symm, rfl, hx⟩
    · cases h
  | exit i =>
    simp only [leafR] at h
    split at h
    · rename_i x hx
      exact .inr ⟨x, (Option.some.inj h).symm, by simp, hx⟩
    · cases h
  | ret =>
    simp only [leafR] at h
    split at h
    · rename_i x hx
      exact .inr ⟨x, (Option.some.inj h).symm, by simp, hx⟩
    · cases h

/-- A loop does what its rounds do. -/
theorem loop_okR (hcl : CalleeOK P (calleeE P E)) (hP : P.follows .mixedOrders = true) {a : Code} {sh : List (Nat × Kd)} {exits : List (Ex × List (Nat × Kd))} {step : Shape.den sh → Option (Shape.den sh ⊕ exDen exits)} (L : Nat)
    (hl : ∀ b ∈ subsOf a, SubOK P nt lt rt rd T b) (hr : ∀ x, roundR P E nt keep lt rt rd T a sh exits x = step x) : SpecR P nt rd T (.loop a) ⟨sh, exits, loopN step L⟩ := by
  intro x z hz ro n n0 wi Gi μi act w hro hfl hI
  refine wpIn_loop_ghost (fun k a w => (∃ x, loopN step k x = some z ∧ IM n0 wi Gi μi nt (encF sh x 0) (encH sh x) a w) ∧ (rd = true → a.defers = act.defers)) L ⟨⟨x, hz, hI⟩, fun _ => rfl⟩ ?_
  rintro k act1 w ⟨⟨x, hz, hI⟩, hdef⟩
  cases k with
  | zero => cases hz
  | succ k =>
    simp only [loopN] at hz
    split at hz
    · rename_i y hs
      rw [← hr] at hs
      obtain ⟨⟨ex, F', H'⟩, h1, h2⟩ := execR_sound hcl hP a _ _ _ _ hl hs
      refine wpIn_mono (h2 ro n n0 wi Gi μi act1 w hro hfl hI) ?_
      rintro e a' w' ⟨rfl, hI', hd'⟩
      rcases leafR_out h1 with ⟨y', e1, e2, e3⟩ | ⟨z', e1, _, _⟩
      · cases e1
        dsimp only at e2
        subst e2
        exact ⟨k, by omega, ⟨y, hz, hI'.dec hfl e3⟩, fun hr => (hd' hr).trans (hdef hr)⟩
      · cases e1
    · rename_i y hs
      simp only [Option.some.injEq] at hz
      subst hz
      rw [← hr] at hs
      obtain ⟨⟨ex, F', H'⟩, h1, h2⟩ := execR_sound hcl hP a _ _ _ _ hl hs
      refine wpIn_mono (h2 ro n n0 wi Gi μi act1 w hro hfl hI) ?_
      rintro e a' w' ⟨rfl, hI', hd'⟩
      rcases leafR_out h1 with ⟨y', e1, e2, e3⟩ | ⟨z', e1, e2, e3⟩
      · cases e1
      · cases e1
        dsimp only at e2 e3 hI'
        obtain ⟨h3, h5⟩ := hI'.decEx hfl e3
        have h6 : (rd = true → a'.defers = act.defers) := fun hr => (hd' hr).trans (hdef hr)
        cases ex with
        | normal => exact absurd rfl e2
        | exit i => exact ⟨by rw [h3], h5, h6⟩
        | ret => exact ⟨by rw [h3], h5, h6⟩
    · cases hz
end
end Go.PM

/- The plain machine: a range over a func whose iterator gives a list. No program. -/
set_option linter.unusedSimpArgs false
set_option linter.unusedVariables false
namespace Go.PM
open Go Go.RowKit

/-- The blocks that the slots of a typed state name. -/
def namesK : Kd → Nat → List Nat
  | .own _ _, n | .box _ _, n | .bown _ _ _, n | .bag _ _ _ _ _, n => [n]
  | .win j _, _ => [j]
  | _, _ => []
def namesT : List (Nat × Kd) → Nat → List Nat
  | [], _ => []
  | (_, k) :: r, n => namesK k n ++ namesT r (n + k.pos)
/-- A step of the iterator: it writes S. -/
structure Stp (S : Nat → Prop) (B A : World) : Prop where
  keep : ∀ b, b < B.heap.size → ¬ S b → A.heap[b]? = B.heap[b]?
  room : ∀ b n, Room B b n → Room A b n
  os : A.os = B.os
  tape : A.tape = B.tape
  output : A.output = B.output
  size : B.heap.size ≤ A.heap.size
  drawn : B.drawn ≤ A.drawn
theorem Stp.refl (S : Nat → Prop) (B : World) : Stp S B B := ⟨fun _ _ _ => rfl, fun _ _ h => h, rfl, rfl, rfl, Nat.le_refl _, Nat.le_refl _⟩
theorem Stp.trans {S : Nat → Prop} {A B C : World} (h : Stp S A B) (k : Stp S B C) : Stp S A C :=
  ⟨fun b hb hs => (k.keep b (Nat.lt_of_lt_of_le hb h.size) hs).trans (h.keep b hb hs), fun b n hr => k.room b n (h.room b n hr), k.os.trans h.os, k.tape.trans h.tape, k.output.trans h.output, Nat.le_trans h.size k.size, Nat.le_trans h.drawn k.drawn⟩

/-- The iterator made of these data gives these elements, one by one. T: the blocks that it has made so far (a round leaves them alone); X: those of them that it may write again; what it gives are data. -/
def IterOK (P : Program) (gf : FuncId) (ts : List Ty) (ks : List Kd) (f : denT ts → Option (List (denK ks))) : Prop :=
  ∀ x all, f x = some all → ∀ (m l : Nat) (W : World) (G : Nat → Prop) (vs : List Value), (∀ b, G b → b < W.heap.size) → VRs W G nomap (encP ts x) vs →
    ∀ (J Jx : List (denK ks) → (Nat → Prop) → (Nat → Prop) → World → Prop),
    (∀ pre e post T X B T' X' A us Gx m', all = pre ++ e :: post → J pre T X B → Stp X B A → (∀ b, T' b → (T b ∨ B.heap.size ≤ b) ∧ b < A.heap.size) → (∀ b, X' b → T' b ∧ (X b ∨ B.heap.size ≤ b)) →
      (∀ b, Gx b → (G b ∨ T' b) ∧ ¬ X' b) → VRs A Gx nomap (encA ks e) us →
      YieldAt Fence.wide m' P l us.toArray A fun en C =>
        ((∀ b, b < A.heap.size → G b ∨ T' b → C.heap[b]? = A.heap[b]?) ∧ (∀ b n, Room A b n → Room C b n) ∧ A.heap.size ≤ C.heap.size ∧ A.drawn ≤ C.drawn) ∧ ((en = .returned (.bool true) ∧ J (pre ++ [e]) T' X' C) ∨ (en = .returned (.bool false) ∧ Jx (pre ++ [e]) T' X' C))) →
    J [] (fun _ => False) (fun _ => False) W →
    CallsIn Fence.wide m P gf ((#[.func (.yield l) #[] #[]] : Array Value) ++ vs.toArray) W fun en C => (∃ v, en = .returned v) ∧ ∃ T X B, Stp X B C ∧ (J all T X B ∨ ∃ pre, Jx pre T X B)

/-- All rounds. -/
def rangeN {σ τ ε : Type} (step : σ → ε → Option (σ ⊕ τ)) (fin : σ → Option τ) : List ε → σ → Option τ
  | [], y => fin y
  | e :: es, y => match step y e with
    | some (.inl y') => rangeN step fin es y'
    | some (.inr z) => some z
    | none => none
def setPs : List Nat → List PV → Frm → Frm
  | t :: ts, p :: ps, F => setPs ts ps ((t, p) :: F)
  | _, _, F => F
/-- What a round comes to; the slots are those ahead of the loop. -/
def leafG (sh : List (Nat × Kd)) (exits : List (Ex × List (Nat × Kd))) (F0 : Frm) (ex : Ex) (_ : Frm) (H : Heap) : Option (Shape.den sh ⊕ exDen exits) := leafR [] sh exits ex F0 H
def roundG (P : Program) (E : Env) (nt keep : Nat) (lt rt : Nat → Option LSpec) (ps : List Nat) (assign body : Code) (ks : List Kd) (sh : List (Nat × Kd)) (exits : List (Ex × List (Nat × Kd))) (y : Shape.den sh) (e : denK ks) : Option (Shape.den sh ⊕ exDen exits) :=
  bif Nat.beq ps.length ks.length && ps.all (fun t => Nat.blt t nt) then
    execR P E nt keep lt rt true (namesT sh 0) assign (setPs ps (encA ks e) (encF sh y 0)) (encH sh y) fun ex F H => match ex with
      | .normal => execR P E nt keep lt rt true (namesT sh 0) body F H (leafG sh exits (encF sh y 0))
      | _ => none
  else none
def finG (sh : List (Nat × Kd)) (exits : List (Ex × List (Nat × Kd))) (y : Shape.den sh) : Option (exDen exits) := decExR [] exits .normal (encF sh y 0) (encH sh y)
/-- The whole range. -/
def runG (sh : List (Nat × Kd)) (exits : List (Ex × List (Nat × Kd))) {ε : Type} (all : Shape.den sh → Option (List ε)) (step : Shape.den sh → ε → Option (Shape.den sh ⊕ exDen exits)) (x : Shape.den sh) : Option (exDen exits) :=
  match all x with
  | some l => rangeN step (finG sh exits) l x
  | none => none
/-- The iterator that the loop ranges over. -/
def seqOf (gf : FuncId) (ts : List Ty) (sh : List (Nat × Kd)) (g : Operand) (x : Shape.den sh) : Option (denT ts) := decClo gf ts (ev (encF sh x 0) g)

section
variable {P : Program} {n0 : Nat → Prop} {w wi : World} {G Gi : Nat → Prop} {μ μi : Mp} {H : Heap} {F : Frm} {a : Act} {nt : Nat}

/-- A block that is no memory of cells changes: nobody minds. -/
theorem putObj_mono {l : Nat} {o o' : Obj} (hl : w.heap[l]? = some o) (ho : ∀ c t fr, o ≠ .cells c t fr) (hG : ¬ G l) : Mono w G μ (w.putObj l o') G μ :=
  ⟨fun b hb => ⟨hb, World.putObj_heap_other (by rintro rfl; exact hG hb)⟩, fun _ _ h => h, fun _ _ h => h, fun b n ⟨cs, t, fr, h1, h2⟩ => ⟨cs, t, fr, by
    rw [World.putObj_heap_other]
    · exact h1
    · rintro rfl
      rw [hl] at h1
      exact ho cs t fr (Option.some.inj h1), h2⟩⟩
theorem putObj_winv (hW : WInv n0 G μ H w) {l : Nat} {o o' : Obj} (hl : w.heap[l]? = some o) (ho : ∀ c t fr, o ≠ .cells c t fr) (hG : ¬ G l) : WInv n0 G μ H (w.putObj l o') := by
  have m := putObj_mono (μ := μ) (o' := o') hl ho hG
  refine ⟨?_, hW.tags, hW.inj, fun b hb => by rw [World.putObj_size]; exact hW.lt b hb, hW.top, fun b hb => hW.base b (by rw [World.putObj_size] at hb; exact hb)⟩
  intro r k b hr hb
  obtain ⟨c, h1, h2, h3, h4⟩ := hW.blk r k b hr hb
  have e : (w.putObj l o').heap[b]? = w.heap[b]? := by
    rw [World.putObj_heap_other]
    rintro rfl
    rw [hl] at h1
    exact ho _ _ _ (Option.some.inj h1)
  exact ⟨c, e.trans h1, VCells.mono m e 0 _ h2, h3, h4⟩
theorem putObj_ext {l : Nat} {o o' : Obj} (hl : w.heap[l]? = some o) (ho : ∀ c t fr, o ≠ .cells c t fr) (hG : ¬ G l) (hn : n0 l) : Ext n0 w G μ (w.putObj l o') G μ :=
  { toMono := putObj_mono hl ho hG
    os := rfl
    tape := rfl
    output := rfl
    size := by simp
    drawn := Nat.le_refl _
    old := fun b hb hnb => World.putObj_heap_other (by rintro rfl; exact hnb hn)
    new := fun b hb => .inl hb }

/-- The caller through a step of the iterator; new data come with it. -/
theorem stp_ext {T X T' Gx G1 : Nat → Prop} {A B : World} (hW : WInv (fun b => n0 b ∧ ¬ T b) G μ H B) (hn : ∀ b, T b → n0 b) (hTX : ∀ b, X b → T b) (hGX : ∀ b, G b → ¬ X b) (hG1 : ∀ b, G1 b → G b) (st : Stp X B A) (hT : ∀ b, T' b → (T b ∨ B.heap.size ≤ b) ∧ b < A.heap.size) (hx : ∀ b, Gx b → G1 b ∨ T' b) :
    Ext n0 B G μ A (fun b => G b ∨ Gx b) μ := {
  good := fun b hb => ⟨.inl hb, st.keep b (hW.lt b hb) (hGX b hb)⟩
  map := fun _ _ h => h
  len := fun _ _ h => h
  room := st.room
  os := st.os
  tape := st.tape
  output := st.output
  size := st.size
  drawn := st.drawn
  old := fun b hb hnb => st.keep b hb fun hs => hnb (hn b (hTX b hs))
  new := fun b hb => by
    rcases hb with hb | hb
    · exact .inl hb
    · rcases hx b hb with h | h
      · exact .inl (hG1 b h)
      · rcases (hT b h).1 with h | h
        · exact .inr (hn b h)
        · exact .inr (hW.base b h).1 }
theorem stp_winv {T X T' Gx G1 : Nat → Prop} {A B : World} (hW : WInv (fun b => n0 b ∧ ¬ T b) G μ H B) (hTX : ∀ b, X b → T b) (hGX : ∀ b, G b → ¬ X b) (hG1 : ∀ b, G1 b → G b) (st : Stp X B A) (hT : ∀ b, T' b → (T b ∨ B.heap.size ≤ b) ∧ b < A.heap.size) (hx : ∀ b, Gx b → G1 b ∨ T' b) :
    WInv (fun b => n0 b ∧ ¬ T' b) (fun b => G b ∨ Gx b) μ H A := by
  have m : Mono B G μ A (fun b => G b ∨ Gx b) μ := ⟨fun b hb => ⟨.inl hb, st.keep b (hW.lt b hb) (hGX b hb)⟩, fun _ _ h => h, fun _ _ h => h, st.room⟩
  refine ⟨?_, hW.tags, hW.inj, ?_, hW.top, fun b hb => ⟨(hW.base b (Nat.le_trans st.size hb)).1, fun hs => Nat.lt_irrefl _ (Nat.lt_of_lt_of_le (hT b hs).2 hb)⟩⟩
  · intro r k b hr hb
    obtain ⟨c, h1, h2, h3, h4, h5⟩ := hW.blk r k b hr hb
    have hlt := hW.loc_lt hr hb
    have hns : ¬ X b := by
      cases hf : k.frozen with
      | true => exact hGX b (h4 hf)
      | false => exact fun hx => (h5 hf).1.2 (hTX b hx)
    have e := st.keep b hlt hns
    have nT : k.frozen = false → ¬ T' b := fun hf hs => by
      rcases (hT b hs).1 with h | h
      · exact (h5 hf).1.2 h
      · omega
    refine ⟨c, e.trans h1, VCells.mono m e 0 _ h2, h3, fun hf => .inl (h4 hf), fun hf => ⟨⟨(h5 hf).1.1, nT hf⟩, ?_⟩⟩
    rintro (h | h)
    · exact (h5 hf).2 h
    · rcases hx b h with h' | h'
      · exact (h5 hf).2 (hG1 b h')
      · exact nT hf h'
  · rintro b (hb | hb)
    · exact Nat.lt_of_lt_of_le (hW.lt b hb) st.size
    · rcases hx b hb with h | h
      · exact Nat.lt_of_lt_of_le (hW.lt b (hG1 b h)) st.size
      · exact (hT b h).2

theorem setPs_frm : ∀ {ps : List Nat} {qs : List PV} {us : List Value} {F : Frm} {tmps : Array Value}, ps.length = qs.length → (∀ t ∈ ps, t < nt) → VRs w G μ qs us → FInv w G μ nt F { tmps := tmps, defers := [] } →
    FInv w G μ nt (setPs ps qs F) { tmps := (ps.zip us).foldl (fun t (p, v) => t.setIfInBounds p v) tmps, defers := [] }
  | [], [], us, F, tmps, _, _, hv, hF => by
    simp only [setPs, List.zip_nil_left, List.foldl_nil]; exact hF
  | t :: ts, q :: qs, us, F, tmps, hl, hb, hv, hF => by
    rw [VRs] at hv
    obtain ⟨v, vs, rfl, h1, h2⟩ := hv
    simp only [setPs, List.zip_cons_cons, List.foldl_cons]
    exact setPs_frm (by simpa using hl) (fun s hs => hb s (List.mem_cons_of_mem _ hs)) h2 (hF.cons (hb t List.mem_cons_self) h1)
  | [], _ :: _, us, F, tmps, hl, _, _, _ => by simp at hl
  | _ :: _, [], us, F, tmps, hl, _, _, _ => by simp at hl
end
end Go.PM

/- The plain machine: a range over a func does what its rounds do. No program. -/
set_option linter.unusedSimpArgs false
set_option linter.unusedVariables false
namespace Go.PM
open Go Go.RowKit

/-- The names in T alone. -/
def onlyMp (μ : Mp) (T : List Nat) : Mp := ⟨fun r => if r ∈ T then μ.loc r else none, fun r => if r ∈ T then μ.len r else none⟩

section
variable {P : Program} {n0 : Nat → Prop} {w w' wi : World} {G G' Gi : Nat → Prop} {μ μ' μi : Mp} {H : Heap} {F : Frm} {a : Act} {nt : Nat}

theorem onlyMp_at {T : List Nat} {r : Nat} (h : r ∈ T) : (onlyMp μ T).loc r = μ.loc r ∧ (onlyMp μ T).len r = μ.len r := by simp [onlyMp, h]
theorem onlyMp_off {T : List Nat} : ∀ r, ¬ r ∈ T → (onlyMp μ T).loc r = none ∧ (onlyMp μ T).len r = none := fun r h => by simp [onlyMp, h]
theorem onlyMp_ext (T : List Nat) : Ext n0 w G (onlyMp μ T) w G μ := {
  good := fun _ h => ⟨h, rfl⟩
  map := fun r b hr => by
    by_cases h : r ∈ T
    · rw [(onlyMp_at h).1] at hr; exact hr
    · rw [(onlyMp_off r h).1] at hr; cases hr
  len := fun r b hr => by
    by_cases h : r ∈ T
    · rw [(onlyMp_at h).2] at hr; exact hr
    · rw [(onlyMp_off r h).2] at hr; cases hr
  room := fun _ _ h => h
  os := rfl
  tape := rfl
  output := rfl
  size := Nat.le_refl _
  drawn := Nat.le_refl _
  old := fun _ _ _ => rfl
  new := fun _ h => .inl h }
theorem encP_noRefs' : ∀ (ts : List Ty) (x : denT ts), noRef.noRefs (encP ts x) = true
  | [], _ => rfl
  | t :: r, (x, xs) => by simp only [encP, noRef.noRefs, noRef, encP_noRefs' r xs, Bool.and_self]
theorem encK_only {T : List Nat} : ∀ (k : Kd) (x : k.den) (n : Nat) {v : Value}, (∀ r, r ∈ namesK k n → r ∈ T) → VR w G μ (encK k x n) v → VR w G (onlyMp μ T) (encK k x n) v
  | .int _, x, n, v, _, h => by simp only [encK] at h ⊢; rw [VR] at h ⊢; exact h
  | .bool, x, n, v, _, h => by simp only [encK] at h ⊢; rw [VR] at h ⊢; exact h
  | .str, x, n, v, _, h => by simp only [encK] at h ⊢; rw [VR] at h ⊢; exact h
  | .list t, x, n, v, _, h => (noRef_vr (encK (.list t) x n) v rfl h).of_nomap
  | .agg t, x, n, v, _, h => (noRef_vr (encK (.agg t) x n) v (by simp only [encK, noRef]; exact enc_noRefs t x) h).of_nomap
  | .own e t, x, n, v, hT, h => by
    have := onlyMp_at (μ := μ) (hT n (by simp [namesK]))
    simp only [encK] at h ⊢
    rw [VR] at h ⊢; rw [this.1, this.2]; exact h
  | .box e t, x, n, v, hT, h => by
    have := onlyMp_at (μ := μ) (hT n (by simp [namesK]))
    simp only [encK] at h ⊢
    rw [VR] at h ⊢; rw [this.1]; exact h
  | .bown e et t, x, n, v, hT, h => by
    have := onlyMp_at (μ := μ) (hT n (by simp [namesK]))
    simp only [encK] at h ⊢
    rw [VR] at h ⊢; rw [this.1]; exact h
  | .bag e t1 et t t2, x, n, v, hT, h => by
    have := onlyMp_at (μ := μ) (hT n (by simp [namesK]))
    simp only [encK] at h ⊢
    rw [VR] at h ⊢; rw [this.1]; exact h
  | .ptr t, x, n, v, _, h => (noRef_vr (encK (.ptr t) x n) v rfl h).of_nomap
  | .fn g, x, n, v, _, h => by simp only [encK] at h ⊢; rw [VR] at h ⊢; exact h
  | .nil0, x, n, v, _, h => by simp only [encK] at h ⊢; rw [VR] at h ⊢; exact h
  | .val, x, n, v, _, h => by simp only [encK] at h ⊢; rw [VR] at h ⊢; exact h
  | .nilI, x, n, v, _, h => by simp only [encK] at h ⊢; rw [VR] at h ⊢; exact h
  | .clo g ts, x, n, v, _, h => (noRef_vr (encK (.clo g ts) x n) v (by simp only [encK, noRef, noRef.noRefs, encP_noRefs' ts x, Bool.and_self]) h).of_nomap
  | .win j sz, x, n, v, hT, h => by
    have := onlyMp_at (μ := μ) (hT j (by simp [namesK]))
    simp only [encK] at h ⊢
    rw [VR] at h ⊢; rw [this.1, this.2]; exact h
theorem encF_only {T : List Nat} : ∀ (sh : List (Nat × Kd)) (x : Shape.den sh) (n : Nat) {t : Nat} {v : Value}, (∀ r, r ∈ namesT sh n → r ∈ T) → VR w G μ (fget (encF sh x n) t) v → VR w G (onlyMp μ T) (fget (encF sh x n) t) v
  | [], _, _, t, v, _, h => by simp only [encF, fget]; rw [VR]; trivial
  | (s, k) :: r, (x, xs), n, t, v, hT, h => by
    simp only [encF] at h ⊢
    rw [fget_cons] at h ⊢
    by_cases hs : t = s
    · rw [if_pos hs] at h ⊢
      exact encK_only k x n (fun r hr => hT r (by simp only [namesT]; exact List.mem_append_left _ hr)) h
    · rw [if_neg hs] at h ⊢
      exact encF_only r xs (n + k.pos) (fun r hr => hT r (by simp only [namesT]; exact List.mem_append_right _ hr)) h

/-- A block that is no memory of cells. -/
theorem alloc_plain (hW : WInv n0 G μ H w) (o : Obj) : Ext n0 w G μ (w.alloc o) G μ ∧ WInv n0 G μ H (w.alloc o) := by
  have e : Ext n0 w G μ (w.alloc o) G μ := {
    good := fun b hb => ⟨hb, Below.heap_alloc _ _ _ (hW.lt b hb)⟩
    map := fun _ _ h => h
    len := fun _ _ h => h
    room := fun b n hc => by
      obtain ⟨cs, t, fr, h1, h2⟩ := hc
      exact ⟨cs, t, fr, by rw [Below.heap_alloc _ _ _ (heap_lt h1)]; exact h1, h2⟩
    os := rfl
    tape := rfl
    output := rfl
    size := by simp
    drawn := Nat.le_refl _
    old := fun b hb _ => Below.heap_alloc _ _ _ hb
    new := fun b hb => .inl hb }
  exact ⟨e, hW.keep e (fun r k b hr hb => ⟨Below.heap_alloc _ _ _ (hW.loc_lt hr hb), id⟩) fun b hb => Nat.lt_of_lt_of_le (hW.lt b hb) e.size⟩
/-- A step, the names aside. -/
theorem Ext.plain (h : Ext n0 w G μ w' G' μ') : Ext n0 w G nomap w' G' nomap :=
  { good := h.good, map := fun _ _ h => (by cases h), len := fun _ _ h => (by cases h), room := h.room, os := h.os, tape := h.tape, output := h.output, size := h.size, drawn := h.drawn, old := h.old, new := h.new }
theorem Ext.back (hfl : ∀ r, μi.loc r = none ∧ μi.len r = none) (h : Ext n0 w G nomap w' G' nomap) : Ext n0 w G μi w' G' μ' :=
  { good := h.good, map := fun r b hr => (by rw [(hfl r).1] at hr; cases hr), len := fun r b hr => (by rw [(hfl r).2] at hr; cases hr), room := h.room, os := h.os, tape := h.tape, output := h.output, size := h.size, drawn := h.drawn, old := h.old, new := h.new }

def Ex.code : Ex → Code
  | .normal => .skip
  | .ret => .ret
  | .exit i => .exit i

/-- The caller's state between the rounds: T, X: the iterator's blocks; L, D: the loop's. -/
structure Btw (n0 : Nat → Prop) (wi : World) (Gi : Nat → Prop) (μi : Mp) (nt : Nat) (a : Act) (G0 : Nat → Prop) (N L D : Nat) (F : Frm) (H : Heap) (T X : Nat → Prop) (B : World) (rec : Obj) (G : Nat → Prop) (μ : Mp) : Prop where
  ext : Ext n0 wi Gi μi B G μ
  winv : WInv (fun b => n0 b ∧ ¬ T b) G μ H B
  finv : FInv B G μ nt F { a with defers := [] }
  base : ∀ b, G0 b → G b
  good : ∀ b, G b → ¬ X b
  sub : ∀ b, X b → T b
  seq : ∀ b, T b → n0 b ∧ N ≤ b
  size : N ≤ B.heap.size
  notL : ¬ G L
  notD : ¬ G D
  atL : B.heap[L]? = some rec
  atD : B.heap[D]? = some (.deferred (some []))
  marks : Marks wi B G a.defers

theorem clo_value {gf : FuncId} {ts : List Ty} {c : denT ts} {v : Value} (h : VR w G nomap (.clo (.func gf) [] (encP ts c)) v) : ∃ cs : Array Value, v = .func (.func gf) #[] cs ∧ VRs w G nomap (encP ts c) cs.toList := by
  rw [VR] at h
  obtain ⟨fs, cs, h1, h2, h3⟩ := h
  rw [VRs] at h2
  have : fs = #[] := by
    apply Array.ext'
    simpa using h2
  subst this
  exact ⟨cs, h1, h3⟩
theorem encA_length : ∀ (l : List Kd) (x : denK l), (encA l x).length = l.length
  | [], _ => rfl
  | k :: r, (x, xs) => by simp only [encA, List.length_cons, encA_length r xs]

set_option maxHeartbeats 2000000 in
theorem range_ok {E : Env} {keep : Nat} {lt rt : Nat → Option LSpec} (hcl : CalleeOK P (calleeE P E)) (hP : P.follows .mixedOrders = true) {g : Operand} {ps : Array Tmp} {as body : Code} {gf : FuncId} {ts : List Ty} {ks : List Kd} {f : denT ts → Option (List (denK ks))}
    (hit : IterOK P gf ts ks f) (hgf : ∀ args w, (callFunc gf args).run P w = .ok (.enter gf args) w)
    {sh : List (Nat × Kd)} {exits : List (Ex × List (Nat × Kd))} {step : Shape.den sh → denK ks → Option (Shape.den sh ⊕ exDen exits)} {all : Shape.den sh → Option (List (denK ks))}
    (has : ∀ b ∈ subsOf as, SubOK P nt lt rt true (namesT sh 0) b) (hbd : ∀ b ∈ subsOf body, SubOK P nt lt rt true (namesT sh 0) b)
    (hsq : ∀ x l, all x = some l → ∃ c, seqOf gf ts sh g x = some c ∧ f c = some l)
    (hr : ∀ y e, roundG P E nt keep lt rt ps.toList as body ks sh exits y e = step y e) :
    SpecR P nt false [] (.rangeFunc g ps as body) ⟨sh, exits, runG sh exits all step⟩ := by
  intro x z hz ro n n0 wi Gi μi a w hro hfl0 hI
  have hfl : ∀ r, μi.loc r = none ∧ μi.len r = none := fun r => hfl0 r (by simp)
  have hro := hro rfl
  subst hro
  show (Code.rangeFunc g ps as body).wpIn Fence.wide n P _ a w
  dsimp only at hz hI ⊢
  unfold runG at hz
  obtain ⟨lst, hall⟩ : ∃ lst, all x = some lst := by
    cases h : all x with
    | none => rw [h] at hz; cases hz
    | some l => exact ⟨l, rfl⟩
  rw [hall] at hz
  dsimp only at hz
  obtain ⟨c, hc1, hc2⟩ := hsq x lst hall
  obtain ⟨G, μ, e, hW, hF, hm⟩ := hI
  have hgv : VR w G μ (ev (encF sh x 0) g) (a.eval g) := by
    have := ev_vr hF g
    have e1 : ({ a with defers := [] } : Act).eval g = a.eval g := by cases g <;> rfl
    rwa [e1] at this
  obtain ⟨lb, hg, hvs⟩ := clo_value (decClo_sound hc1 hgv)
  refine wpIn_rangeFunc ?_
  intro fn _
  obtain ⟨rec, hrec⟩ : ∃ rec : LoopState → Option Code → Loop, rec = fun st pe => { state := st, pending := pe, fn, tmps := a.tmps, params := ps, assign := as, body, defers := w.heap.size } := ⟨_, rfl⟩
  obtain ⟨W1, hW1⟩ : ∃ W1, (w.alloc (.deferred (some []))).alloc (.loop (rec .ready none)) = W1 := ⟨_, rfl⟩
  obtain ⟨L, hLe⟩ : ∃ L, w.heap.size + 1 = L := ⟨_, rfl⟩
  obtain ⟨D, hDe⟩ : ∃ D, w.heap.size = D := ⟨_, rfl⟩
  have hs1 : W1.heap.size = w.heap.size + 2 := by rw [← hW1]; simp
  have hL1 : W1.heap[L]? = some (.loop (rec .ready none)) := by
    rw [← hW1, ← hLe]; have := World.alloc_heap_new (w.alloc (.deferred (some []))) (.loop (rec .ready none)); rwa [World.size_alloc] at this
  have hD1 : W1.heap[D]? = some (.deferred (some [])) := by
    rw [← hW1, ← hDe]; exact (Below.heap_alloc _ _ _ (by simp)).trans (World.alloc_heap_new w _)
  obtain ⟨a1, a2⟩ := alloc_plain (n0 := n0) hW (.deferred (some []))
  obtain ⟨b1, b2⟩ := alloc_plain (n0 := n0) a2 (.loop (rec .ready none))
  rw [hW1] at b1 b2
  have eW1 : Ext n0 wi Gi μi W1 G μ := (e.trans a1).trans b1
  have hvs1 : VRs W1 G nomap (encP ts c) lb.toList := VRs.mono (a1.toMono.trans b1.toMono).nomap _ _ hvs
  have hGL : ¬ G L := fun h => by have := hW.lt L h; omega
  have hGD : ¬ G D := fun h => by have := hW.lt D h; omega
  have hn0L : n0 L := hW.base L (by omega)
  have hn0D : n0 D := hW.base D (by omega)
  have marks1 : Marks wi W1 G a.defers := hm.to fun b hb h1 h2 => ⟨by rw [← hW1, Below.heap_alloc _ _ _ (by have := heap_lt h1; simp; omega), Below.heap_alloc _ _ _ (heap_lt h1)]; exact h1, h2⟩
  have markN : ∀ b, ({ target := .collected b, args := #[] } : Deferred) ∈ a.defers → b < w.heap.size := by
    intro b hb
    obtain ⟨b', e1, e2, _⟩ := hm.mem _ hb
    have : b = b' := by injection e1 with e1 _; injection e1
    subst this
    exact heap_lt e2
  -- the states between the rounds
  let J : List (denK ks) → (Nat → Prop) → (Nat → Prop) → World → Prop := fun pre T X B => ∃ y, rangeN step (finG sh exits) (lst.drop pre.length) y = some z ∧ ∃ G' μ', Btw n0 wi Gi μi nt a G W1.heap.size L D (encF sh y 0) (encH sh y) T X B (.loop (rec .ready none)) G' μ'
  let Jx : List (denK ks) → (Nat → Prop) → (Nat → Prop) → World → Prop := fun pre T X B => (outX exits z).1 ≠ .normal ∧ ∃ G' μ', Btw n0 wi Gi μi nt a G W1.heap.size L D (outX exits z).2.1 (outX exits z).2.2 T X B (.loop (rec .done (some (outX exits z).1.code))) G' μ'
  refine ⟨L, [{ target := .collected D, args := #[] }], W1, { target := .fn (.func gf) lb, args := #[.func (.yield L) #[] #[]] }, W1, gf, #[.func (.yield L) #[] #[]] ++ lb, W1, ?_, ?_, fun _ _ => trivial, ?_, fun h => (by cases h), ?_⟩
  · rw [← hW1, hrec, ← hLe, ← hDe]; exact run_enterLoop_outer _ _ _ _ _
  · simp only [resolve, hg]
    simp [go_sem]
  · simp [invoke, go_sem, hgf]
  · have hcall := hit c lst hc2 (n - 1) L W1 G lb.toList (fun b hb => b2.lt b hb) hvs1 J Jx ?round ?start
    · rw [Array.toArray_toList] at hcall
      refine hcall.mono ?_
      rintro en C ⟨⟨v, rfl⟩, T, X, B, st, hJ⟩
      have hstep : ∀ {F' : Frm} {H' : Heap} {st' : LoopState} {pe : Option Code} {G' : Nat → Prop} {μ' : Mp}, Btw n0 wi Gi μi nt a G W1.heap.size L D F' H' T X B (.loop (rec st' pe)) G' μ' →
          C.heap[L]? = some (.loop (rec st' pe)) ∧ ∀ o, IM n0 wi Gi μi nt F' H' { a with defers := { target := .collected D, args := #[] } :: a.defers } (C.putObj L o) := by
        intro F' H' st' pe G' μ' bt
        have nS : ∀ b, b < W1.heap.size → ¬ X b := fun b hb hs => Nat.lt_irrefl _ (Nat.lt_of_lt_of_le hb (bt.seq b (bt.sub b hs)).2)
        have hLC : C.heap[L]? = some (.loop (rec st' pe)) := (st.keep L (heap_lt bt.atL) (nS L (by omega))).trans bt.atL
        have hDC : C.heap[D]? = some (.deferred (some [])) := (st.keep D (heap_lt bt.atD) (nS D (by omega))).trans bt.atD
        refine ⟨hLC, fun o => ?_⟩
        have x1 := stp_ext (T' := fun _ => False) (Gx := fun _ => False) bt.winv (fun b hb => (bt.seq b hb).1) bt.sub bt.good bt.base st (fun b hb => hb.elim) (fun b hb => hb.elim)
        have x2 := (stp_winv (T' := fun _ => False) (Gx := fun _ => False) bt.winv bt.sub bt.good bt.base st (fun b hb => hb.elim) (fun b hb => hb.elim)).wider (n0 := n0) fun b hb => hb.1
        have nL : ¬ (G' L ∨ False) := fun h => h.elim bt.notL id
        have nD : ¬ (G' D ∨ False) := fun h => h.elim bt.notD id
        have x3 := putObj_winv (o' := o) x2 hLC (fun _ _ _ h => by cases h) nL
        have x4 := putObj_ext (G := fun b => G' b ∨ False) (n0 := n0) (μ := μ') (o' := o) hLC (fun _ _ _ h => by cases h) nL hn0L
        refine ⟨fun b => G' b ∨ False, μ', (bt.ext.trans x1).trans x4, x3, bt.finv.mono (x1.toMono.trans x4.toMono), ⟨D, rfl, ?_, ?_, nD, ?_⟩, ?_⟩
        · rw [World.putObj_heap_other (by omega)]; exact hDC
        · have := e.size; omega
        · intro d' hd' he
          subst he
          have := markN _ hd'
          omega
        · refine bt.marks.to fun b hb h1 h2 => ⟨?_, fun h => h.elim h2 id⟩
          have hbw := markN b hb
          rw [World.putObj_heap_other (by omega), st.keep b (heap_lt h1) (nS b (by omega))]
          exact h1
      rcases hJ with ⟨y, hy, G', μ', bt⟩ | ⟨pre, hne, G', μ', bt⟩
      · obtain ⟨h1, h2⟩ := hstep bt
        rw [List.drop_length] at hy
        simp only [rangeN] at hy
        have hel := run_endLoop (P := P) h1 (by rw [hrec]; simp)
        have k := fun o => (h2 o).decEx hfl0 hy
        have hpn : (rec .ready none).pending = none := by rw [hrec]
        rw [hpn] at hel
        exact ⟨none, _, hel, by rw [(k (.deferred none)).1]; rfl, (k _).2, fun h => by cases h⟩
      · obtain ⟨h1, h2⟩ := hstep bt
        have hel := run_endLoop (P := P) h1 (by rw [hrec]; simp)
        have hpn : (rec .done (some (outX exits z).1.code)).pending = some (outX exits z).1.code := by rw [hrec]
        rw [hpn] at hel
        refine ⟨some (outX exits z).1.code, _, hel, ?_⟩
        dsimp only
        clear hel hpn h1 bt
        generalize outX exits z = zz at hne h2 ⊢
        obtain ⟨ex, F', H'⟩ := zz
        cases ex with
        | normal => exact absurd rfl hne
        | ret => exact wpIn_ret ⟨rfl, h2 _, fun h => by cases h⟩
        | exit i => exact wpIn_exit ⟨rfl, h2 _, fun h => by cases h⟩
    case start =>
      refine ⟨x, by simpa using hz, G, μ, eW1, b2.wider fun b hb => ⟨hb, id⟩, hF.mono (a1.toMono.trans b1.toMono), fun b h => h, fun b _ h => h, fun b h => h.elim, fun b h => h.elim, Nat.le_refl _, hGL, hGD, hL1, hD1, marks1⟩
    case round =>
      rintro pre el post T X B T' X' A us Gx m' hlst ⟨y, hy, G', μ', bt⟩ st hT' hX' hGx hus
      have hdrop : lst.drop pre.length = el :: post := by rw [hlst]; simp
      have hdrop2 : lst.drop (pre ++ [el]).length = post := by rw [hlst]; simp
      rw [hdrop] at hy
      simp only [rangeN] at hy
      obtain ⟨v, hv⟩ : ∃ v, step y el = some v := by
        cases h : step y el with
        | none => rw [h] at hy; cases hy
        | some v => exact ⟨v, rfl⟩
      have hrg := hr y el
      rw [hv] at hrg
      unfold roundG at hrg
      obtain ⟨hck, hrg⟩ := condSome hrg
      simp only [Bool.and_eq_true, List.all_eq_true] at hck
      have hpl := Nat.eq_of_beq_eq_true hck.1
      have hpt : ∀ t ∈ ps.toList, t < nt := fun t ht => nblt_iff (hck.2 t ht)
      -- the world in which the element comes
      have nT : ∀ b, b < W1.heap.size → ¬ T b := fun b hb hs => Nat.lt_irrefl _ (Nat.lt_of_lt_of_le hb (bt.seq b hs).2)
      have nS : ∀ b, b < W1.heap.size → ¬ X b := fun b hb hs => nT b hb (bt.sub b hs)
      have hLB := heap_lt bt.atL
      have hDB := heap_lt bt.atD
      have hLA : A.heap[L]? = some (.loop (rec .ready none)) := (st.keep L hLB (nS L (by omega))).trans bt.atL
      have hDA : A.heap[D]? = some (.deferred (some [])) := (st.keep D hDB (nS D (by omega))).trans bt.atD
      have x1 := stp_ext bt.winv (fun b hb => (bt.seq b hb).1) bt.sub bt.good bt.base st hT' (fun b hb => (hGx b hb).1)
      have x2 := stp_winv bt.winv bt.sub bt.good bt.base st hT' (fun b hb => (hGx b hb).1)
      have nS' : ∀ b, b < B.heap.size → ¬ T b → ¬ T' b := by
        intro b hb hs h
        rcases (hT' b h).1 with h' | h'
        · exact hs h'
        · omega
      have nG2 : ∀ b, b < B.heap.size → ¬ T b → ¬ G' b → ¬ (G' b ∨ Gx b) := by
        rintro b hb ht hg (h | h)
        · exact hg h
        · rcases (hGx b h).1 with h' | h'
          · exact hg (bt.base b h')
          · exact nS' b hb ht h'
      have nL2 := nG2 L hLB (nT L (by omega)) bt.notL
      have nD2 := nG2 D hDB (nT D (by omega)) bt.notD
      have marksA : Marks wi A (fun b => G' b ∨ Gx b) a.defers := bt.marks.to fun b hb h1 h2 => ⟨by rw [st.keep b (heap_lt h1) (nS b (by have := markN b hb; omega))]; exact h1, nG2 b (heap_lt h1) (nT b (by have := markN b hb; omega)) h2⟩
      obtain ⟨G2, hG2⟩ : ∃ G2, G2 = fun b => G' b ∨ Gx b := ⟨_, rfl⟩
      rw [← hG2] at x1 x2 marksA
      have nL2 : ¬ G2 L := by rw [hG2]; exact nL2
      have nD2 : ¬ G2 D := by rw [hG2]; exact nD2
      have hxS : ∀ b, (b = L ∨ b = D ∨ ({ target := .collected b, args := #[] } : Deferred) ∈ a.defers) → b < A.heap.size ∧ ∀ c t fr, A.heap[b]? ≠ some (.cells c t fr) := by
        rintro b (rfl | rfl | hb)
        · exact ⟨heap_lt hLA, fun c t fr h => by rw [hLA] at h; cases h⟩
        · exact ⟨heap_lt hDA, fun c t fr h => by rw [hDA] at h; cases h⟩
        · obtain ⟨b', e1, e2, _⟩ := marksA.mem _ hb
          have : b = b' := by injection e1 with e1 _; injection e1
          subst this
          exact ⟨heap_lt e2, fun c t fr h => by rw [e2] at h; cases h⟩
      have x3 := x2.less hxS
      obtain ⟨n1, hn1⟩ : ∃ n1 : Nat → Prop, n1 = fun b => (n0 b ∧ ¬ T' b) ∧ ¬ (b = L ∨ b = D ∨ ({ target := .collected b, args := #[] } : Deferred) ∈ a.defers) := ⟨_, rfl⟩
      rw [← hn1] at x3
      have n1n0 : ∀ b, n1 b → n0 b := fun b h => by rw [hn1] at h; exact h.1.1
      have n1S : ∀ b, n1 b → ¬ T' b := fun b h => by rw [hn1] at h; exact h.1.2
      have n1L : ¬ n1 L := fun h => by rw [hn1] at h; exact h.2 (.inl rfl)
      have n1D : ¬ n1 D := fun h => by rw [hn1] at h; exact h.2 (.inr (.inl rfl))
      have n1M : ∀ b, ({ target := .collected b, args := #[] } : Deferred) ∈ a.defers → ¬ n1 b := fun b hb h => by rw [hn1] at h; exact h.2 (.inr (.inr hb))
      have hFA : FInv A G2 μ' nt (encF sh y 0) { a with defers := [] } := bt.finv.mono x1.toMono
      have husA : VRs A G2 μ' (encA ks el) us := VRs.mono (⟨fun b hb => ⟨by rw [hG2]; exact .inr hb, rfl⟩, fun _ _ h => (by cases h), fun _ _ h => (by cases h), fun _ _ h => h⟩ : Mono A Gx nomap A G2 μ') _ _ hus
      have hlen : us.length = ps.size := by
        rw [← husA.length, encA_length, ← hpl, Array.length_toList]
      have hyield := run_yield (P := P) (args := us.toArray) hLA (by rw [hrec]; simpa using hlen)
      have hfold : (ps.zip us.toArray).foldl (fun tmps (t, a) => tmps.setIfInBounds t a) a.tmps = (ps.toList.zip us).foldl (fun t (p, v) => t.setIfInBounds p v) a.tmps := by
        rw [← Array.foldl_toList, Array.toList_zip]
      rw [hrec] at hyield
      dsimp only at hyield
      rw [hfold] at hyield
      refine ⟨fn, _, as, body, hyield, roundIn_of_wpIn trivial ?_⟩
      -- the assignment
      have hI0 : IM n1 A G2 (onlyMp μ' (namesT sh 0)) nt (setPs ps.toList (encA ks el) (encF sh y 0)) (encH sh y) { tmps := (ps.toList.zip us).foldl (fun t (p, v) => t.setIfInBounds p v) a.tmps, defers := [] } A :=
        ⟨G2, μ', onlyMp_ext _, x3, setPs_frm (by rw [encA_length]; exact hpl) hpt husA hFA, trivial⟩
      obtain ⟨⟨ex1, F1, H1⟩, hk1, hrun1⟩ := execR_sound hcl hP as _ _ _ _ has hrg
      dsimp only at hk1
      cases ex1 with
      | ret => cases hk1
      | exit i => cases hk1
      | normal =>
      dsimp only at hk1
      obtain ⟨⟨ex2, F2, H2⟩, hk2, hrun2⟩ := execR_sound hcl hP body _ _ _ _ hbd hk1
      show as.wpIn (Fr (some L)) m' P _ _ A
      refine wpIn_mono (hrun1 (some L) m' n1 A G2 _ _ A (fun h => by cases h) (fun r h => onlyMp_off r h) hI0) ?_
      rintro e1 act1 A1 ⟨rfl, ⟨G3, μ3, y1, y2, y3, y4⟩, hd1⟩
      have hd1 : act1.defers = [] := hd1 rfl
      have nL3 : ¬ G3 L := fun h => (y1.new L h).elim nL2 n1L
      have hL1' : A1.heap[L]? = some (.loop (rec .ready none)) := (y1.old L (heap_lt hLA) n1L).trans hLA
      refine ⟨_, run_beginRound hL1' (by rw [hrec]), ?_⟩
      obtain ⟨A2, hA2⟩ : ∃ A2, A1.putObj L (.loop { rec .ready none with state := .busy }) = A2 := ⟨_, rfl⟩
      rw [hA2]
      have p1 : Mono A1 G3 μ3 A2 G3 μ3 := by rw [← hA2]; exact putObj_mono hL1' (fun _ _ _ h => by cases h) nL3
      have p2 : WInv n1 G3 μ3 H1 A2 := by rw [← hA2]; exact putObj_winv y2 hL1' (fun _ _ _ h => by cases h) nL3
      have hL2' : A2.heap[L]? = some (.loop { rec .ready none with state := .busy }) := by rw [← hA2]; exact World.putObj_heap_same (heap_lt hL1')
      have e12 : Ext n0 A1 G3 μ3 A2 G3 μ3 := by rw [← hA2]; exact putObj_ext hL1' (fun _ _ _ h => by cases h) nL3 hn0L
      have hI2 : IM n1 A2 G3 (onlyMp μ' (namesT sh 0)) nt F1 H1 act1 A2 :=
        ⟨G3, μ3, { onlyMp_ext (n0 := n1) (w := A2) (G := G3) (μ := μ') [] with
          map := y1.map
          len := y1.len
          good := fun b hb => ⟨hb, rfl⟩
          room := fun _ _ h => h
          new := fun b hb => .inl hb }, p2, y3.mono p1, by rw [hd1]; trivial⟩
      show body.wpIn (Fr (some L)) m' P _ act1 A2
      refine wpIn_mono (hrun2 (some L) m' n1 A2 G3 _ act1 A2 (fun h => by cases h) (fun r h => onlyMp_off r h) hI2) ?_
      rintro e2 act2 A3 ⟨rfl, ⟨G4, μ4, z1, z2, z3, z4⟩, hd2⟩
      have nL4 : ¬ G4 L := fun h => (z1.new L h).elim nL3 n1L
      have hL3' : A3.heap[L]? = some (.loop { rec .ready none with state := .busy }) := (z1.old L (heap_lt hL2') n1L).trans hL2'
      have hdn : act2.defers = [] := (hd2 rfl).trans hd1
      -- back with the caller
      have hFend : FInv A3 G4 μ4 nt (encF sh y 0) { a with defers := [] } := by
        refine ⟨hFA.size, fun t => ?_, rfl⟩
        have v0 := encF_only (T := namesT sh 0) sh y 0 (fun r h => h) (hFA.slot t)
        have v1 := VR.mono (⟨y1.good, fun _ _ h => h, fun _ _ h => h, y1.room⟩ : Mono A G2 (onlyMp μ' (namesT sh 0)) A1 G3 (onlyMp μ' (namesT sh 0))) _ _ v0
        have v2 := VR.mono (⟨p1.good, fun _ _ h => h, fun _ _ h => h, p1.room⟩ : Mono A1 G3 (onlyMp μ' (namesT sh 0)) A2 G3 (onlyMp μ' (namesT sh 0))) _ _ v1
        exact VR.mono z1.toMono _ _ v2
      have back : ∀ (o : Obj) (F5 : Frm) (H5 : Heap), (∀ {n0 : Nat → Prop} {wi : World} {Gi : Nat → Prop} {μi : Mp} {a : Act} {w : World}, (∀ r, ¬ r ∈ ([] : List Nat) → μi.loc r = none ∧ μi.len r = none) → IM n0 wi Gi μi nt (encF sh y 0) H2 a w → IM n0 wi Gi μi nt F5 H5 a w) →
          ∃ G5 μ5, Btw n0 wi Gi μi nt a G W1.heap.size L D F5 H5 T' X' (A3.putObj L o) o G5 μ5 := by
        intro o F5 H5 hdec
        have q1 := putObj_winv (o' := o) z2 hL3' (fun _ _ _ h => by cases h) nL4
        have q2 := putObj_mono (μ := μ4) (o' := o) hL3' (fun _ _ _ h => by cases h) nL4
        have q3 := putObj_ext (n0 := n0) (μ := μ4) (o' := o) hL3' (fun _ _ _ h => by cases h) nL4 hn0L
        have hIe : IM n1 (A3.putObj L o) G4 nomap nt (encF sh y 0) H2 { a with defers := [] } (A3.putObj L o) :=
          ⟨G4, μ4, { onlyMp_ext (n0 := n1) (w := A3.putObj L o) (G := G4) (μ := μ4) [] with
            map := fun _ _ h => by cases h
            len := fun _ _ h => by cases h
            good := fun b hb => ⟨hb, rfl⟩
            room := fun _ _ h => h
            new := fun b hb => .inl hb }, q1, hFend.mono q2, trivial⟩
        obtain ⟨G5, μ5, r1, r2, r3, _⟩ := hdec (fun _ _ => ⟨rfl, rfl⟩) hIe
        have g45 : ∀ b, G5 b → G2 b ∨ n1 b := fun b h => by
          rcases r1.new b h with h | h
          · rcases z1.new b h with h | h
            · exact y1.new b h
            · exact .inr h
          · exact .inr h
        have mk : ∀ b, ({ target := .collected b, args := #[] } : Deferred) ∈ a.defers → A.heap[b]? = some (.deferred (some [])) → (A3.putObj L o).heap[b]? = some (.deferred (some [])) := by
          intro b hb h1
          have hbw := markN b hb
          have k1 := (y1.old b (heap_lt h1) (n1M b hb)).trans h1
          have k2 : A2.heap[b]? = some (.deferred (some [])) := by rw [← hA2, World.putObj_heap_other (by omega)]; exact k1
          have k3 := (z1.old b (heap_lt k2) (n1M b hb)).trans k2
          rw [World.putObj_heap_other (by omega)]; exact k3
        refine ⟨G5, μ5, ?_, r2.wider fun b hb => ⟨n1n0 b hb, n1S b hb⟩, r3, ?_, ?_, ?_, ?_, ?_, ?_, ?_, ?_, ?_, ?_⟩
        · have t1 := ((bt.ext.plain.trans x1.plain).trans (y1.wider n1n0).plain).trans e12.plain
          exact Ext.back hfl (((t1.trans (z1.wider n1n0).plain).trans q3.plain).trans (r1.wider n1n0).plain)
        · intro b hb
          have h2 : G2 b := by rw [hG2]; exact .inl (bt.base b hb)
          exact (r1.good b (z1.good b (y1.good b h2).1).1).1
        · intro b hb hs
          rcases g45 b hb with h | h
          · rw [hG2] at h
            rcases h with h | h
            · rcases (hX' b hs).2 with h' | h'
              · exact bt.good b h h'
              · exact Nat.lt_irrefl _ (Nat.lt_of_lt_of_le (bt.winv.lt b h) h')
            · exact (hGx b h).2 hs
          · exact n1S b h (hX' b hs).1
        · exact fun b hs => (hX' b hs).1
        · intro b hs
          rcases (hT' b hs).1 with h | h
          · exact bt.seq b h
          · exact ⟨(bt.winv.base b h).1, Nat.le_trans bt.size h⟩
        · have s1 := bt.size
          have s2 := st.size
          have s3 := y1.size
          have s4 := e12.size
          have s5 := z1.size
          rw [World.putObj_size]
          omega
        · exact fun h => (g45 L h).elim nL2 n1L
        · exact fun h => (g45 D h).elim nD2 n1D
        · exact World.putObj_heap_same (heap_lt hL3')
        · have k1 := (y1.old D (heap_lt hDA) n1D).trans hDA
          have k2 : A2.heap[D]? = some (.deferred (some [])) := by rw [← hA2, World.putObj_heap_other (by omega)]; exact k1
          have k3 := (z1.old D (heap_lt k2) n1D).trans k2
          rw [World.putObj_heap_other (by omega)]; exact k3
        · refine marksA.to fun b hb h1 h2 => ⟨mk b hb h1, fun hg => ?_⟩
          exact (g45 b hg).elim h2 (n1M b hb)
      have frame : ∀ (o : Obj) (b : Nat), b < A.heap.size → G b ∨ T' b → (A3.putObj L o).heap[b]? = A.heap[b]? := by
        intro o b hb h
        have hbL : b ≠ L := by
          rintro rfl
          rcases h with h | h
          · exact hGL h
          · exact nS' b hLB (nT b (by omega)) h
        have k1 : A1.heap[b]? = A.heap[b]? ∧ (G3 b ∨ T' b) := by
          rcases h with h | h
          · have := y1.good b (by rw [hG2]; exact .inl (bt.base b h))
            exact ⟨this.2, .inl this.1⟩
          · exact ⟨y1.old b hb fun hn => n1S b hn h, .inr h⟩
        have k2 : A2.heap[b]? = A.heap[b]? := by rw [← hA2, World.putObj_heap_other hbL]; exact k1.1
        have k3 : A3.heap[b]? = A2.heap[b]? := by
          rcases k1.2 with h | h
          · exact (z1.good b h).2
          · refine z1.old b ?_ fun hn => n1S b hn h
            have s3 := y1.size
            have s4 := e12.size
            omega
        rw [World.putObj_heap_other hbL, k3, k2]
      have hroom : ∀ (o : Obj) (b n : Nat), Room A b n → Room (A3.putObj L o) b n := fun o b n h =>
        (putObj_mono (μ := μ4) (o' := o) hL3' (fun _ _ _ h => by cases h) nL4).room b n (z1.room b n (p1.room b n (y1.room b n h)))
      have hsz : ∀ o, A.heap.size ≤ (A3.putObj L o).heap.size ∧ A.drawn ≤ (A3.putObj L o).drawn := by
        intro o
        have s3 := y1.size
        have s4 := e12.size
        have s5 := z1.size
        have d3 := y1.drawn
        have d4 := e12.drawn
        have d5 := z1.drawn
        refine ⟨by rw [World.putObj_size]; omega, ?_⟩
        show A.drawn ≤ A3.drawn
        omega
      rw [hv] at hy
      unfold leafG at hk2
      dsimp only at hk2
      rcases leafR_out hk2 with ⟨x', rfl, e2, e3⟩ | ⟨z', rfl, e2, e3⟩
      · subst e2
        dsimp only at hy
        refine ⟨_, _, run_endRound none hL3', ⟨frame _, hroom _, (hsz _).1, (hsz _).2⟩, .inl ⟨rfl, ⟨x', by rw [hdrop2]; exact hy, ?_⟩⟩⟩
        have := back (.loop (rec .ready none)) (encF sh x' 0) (encH sh x') (fun h hI => hI.dec h e3)
        rw [hrec] at this ⊢
        exact this
      · dsimp only at hy
        have hzz : z' = z := Option.some.inj hy
        subst hzz
        obtain ⟨o1, _⟩ := decExR_shape e3
        have hb := back (.loop (rec .done (some ex2.code))) (outX exits z').2.1 (outX exits z').2.2 (fun h hI => (hI.decEx h e3).2)
        rw [hrec] at hb
        cases ex2 with
        | normal => exact absurd rfl e2
        | ret =>
          refine ⟨_, _, run_endRound (some .ret) hL3', ⟨frame _, hroom _, (hsz _).1, (hsz _).2⟩, .inr ⟨rfl, by rw [o1]; exact e2, ?_⟩⟩
          rw [o1, hrec]
          exact hb
        | exit i =>
          refine ⟨_, _, run_endRound (some (.exit i)) hL3', ⟨frame _, hroom _, (hsz _).1, (hsz _).2⟩, .inr ⟨rfl, by rw [o1]; exact e2, ?_⟩⟩
          rw [o1, hrec]
          exact hb
end
end Go.PM

/- The plain machine: functions with ranges over funcs. No program. -/
set_option linter.unusedSimpArgs false
set_option linter.unusedVariables false
namespace Go.PM
open Go Go.RowKit

section
variable {P : Program} {n0 : Nat → Prop} {w w' wi : World} {G G' Gi : Nat → Prop} {μ μ' μi : Mp} {H : Heap} {F : Frm} {nt n : Nat}

theorem leaves_marks {fn : Func} {tmps : Array Value} {R : Ending → World → Prop} (hb : ∀ b, wi.heap.size ≤ b → n0 b) (hend : ∀ w', IM n0 wi Gi μi nt F H { tmps := tmps, defers := [] } w' → LeavesIn Fence.wide n P fn tmps R [] .returning w') :
    ∀ (ds : List Deferred) (w : World), IM n0 wi Gi μi nt F H { tmps := tmps, defers := ds } w → LeavesInM Fence.wide n P fn tmps R ds .returning w
  | [], w, h => hend w h
  | d :: ds, w, h => by
    obtain ⟨G, μ, e, hW, hF, ⟨b, rfl, h1, h2, h3, h4⟩, hm⟩ := h
    refine ⟨by simp, .inl ⟨b, _, rfl, run_takeDeferred h1, leaves_marks hb hend ds _ ⟨G, μ, e.trans (putObj_ext h1 (fun _ _ _ h => by cases h) h3 (hb b h2)), putObj_winv hW h1 (fun _ _ _ h => by cases h) h3, hF.mono (putObj_mono h1 (fun _ _ _ h => by cases h) h3), ?_⟩⟩⟩
    refine hm.to fun b' hb' k1 k2 => ⟨?_, k2⟩
    rw [World.putObj_heap_other]
    · exact k1
    · rintro rfl
      exact h4 _ hb' rfl

def bodyR (P : Program) (E : Env) (fn : Func) (keep : Nat) (lt rt : Nat → Option LSpec) (c : Code) (args rets : List Kd) (x : denK args) : Option (denK rets) :=
  bif Nat.ble (encA args x).length fn.ntmps then execR P E fn.ntmps keep lt rt false [] c (start keep 0 (encA args x)) [] (endK P fn.results.toList rets) else none

theorem fun_okR {E : Env} (hP : ProgOK P) (hE : EnvOK P E) {g : Nat} {fn : Func} (hg : P.funcs[g]? = some fn) {c : Code} (hc : fn.body = some c) {keep : Nat} {lt rt : Nat → Option LSpec} {args rets : List Kd} {f : denK args → Option (denK rets)}
    (hl : ∀ a ∈ subsOf c, SubOK P fn.ntmps lt rt false [] a) (hb : ∀ x, bodyR P E fn keep lt rt c args rets x = f x) : FnOK P g args rets f := by
  intro x y hy
  rw [← hb] at hy
  unfold bodyR at hy
  obtain ⟨hlen, hy⟩ := condSome hy
  obtain ⟨⟨ex, F', H'⟩, h1, h2⟩ := execR_sound hE.callee hP.mixed c _ _ _ _ hl hy
  obtain ⟨vs, q, hex, hvs, hq, hd⟩ : ∃ vs q, (ex = .normal ∨ ex = .ret) ∧ xResults P F' H' fn.results.toList = some vs ∧ inl false H' depth (oneOrTuple vs) = some q ∧ decR rets q = some y := by
    unfold endK at h1
    split at h1
    · cases h1
    · rename_i hne
      split at h1
      · rename_i vs hvs
        split at h1
        · rename_i q hq
          refine ⟨vs, q, ?_, hvs, hq, h1⟩
          cases ex with
          | normal => exact .inl rfl
          | ret => exact .inr rfl
          | exit i => exact absurd rfl (hne i)
        · cases h1
      · cases h1
  have hcall : ∀ {n0 G μ w us}, WInv n0 G μ [] w → VRs w G μ (encA args x) us → CallOK P n0 w G μ g us.toArray (oneOrTuple vs) H' := by
    intro n0 G μ w us hW hv
    refine ⟨enters hg (hP.names g fn hg) (by rw [hc]; rfl) _ _, (callsIn_wide (n := 0)).1 (callsIn_of_wp_marks hg hc trivial ?_)⟩
    have hI : I n0 w G μ fn.ntmps (start keep 0 (encA args x)) [] ⟨us.toArray ++ Array.replicate (fn.ntmps - us.toArray.size) undef, []⟩ w := ⟨G, μ, Ext.refl _ _ _ _, hW, start_finv (by simpa using hv) (Nat.le_of_ble_eq_true hlen)⟩
    refine wpIn_mono (h2 none 0 n0 w G μ _ w (fun _ => rfl) (fun r _ => hW.top r (Nat.zero_le _)) hI.toIM) ?_
    rintro e ⟨tm, ds⟩ w' ⟨rfl, hI', _⟩
    have hend : ∀ w', IM n0 w G μ fn.ntmps F' H' { tmps := tm, defers := [] } w' → LeavesIn Fence.wide 0 P fn tm (fun e w' => ∃ v' G'' μ'', e = .returned v' ∧ Ext n0 w G μ w' G'' μ'' ∧ WInv n0 G'' μ'' H' w' ∧ VR w' G'' μ'' (oneOrTuple vs) v') [] .returning w' := by
      rintro w' ⟨G', μ', e', hW', hF', _⟩
      obtain ⟨ws, h3, h4⟩ := xResult_sound (P := P) hW' hF' hvs
      have hres : (results fn tm).run P w' = .ok (if hh : ws.toArray.size = 1 then ws.toArray[0] else .tuple ws.toArray) w' := by
        rw [results_eq, Array.mapM_eq_mapM_toList]
        simp only [Sem.run_bind, Sem.run_map, h3, Result.andThen_ok, Sem.run_pure]
      exact ⟨_, hres, _, G', μ', rfl, e', hW', oneOrTuple_vr h4⟩
    rcases hex with rfl | rfl
    · exact leaves_marks (fun b hb => hW.base b hb) hend ds w' hI'
    · exact leaves_marks (fun b hb => hW.base b hb) hend ds w' hI'
  have hp := pure_of_shared hcall hq
  intro w G us hlt hv
  obtain ⟨h3, h4⟩ := hp w G us hlt hv
  refine ⟨h3, h4.mono ?_⟩
  rintro e w' ⟨v', G', rfl, e1, e2, e3⟩
  exact ⟨v', G', rfl, e1, e2, decR_vr hd e3⟩

/-- Proved iterators. -/
def subsOK (P : Program) (nt : Nat) (lt rt : Nat → Option LSpec) (rd : Bool) (T : List Nat) : List Code → Prop
  | [] => True
  | a :: r => SubOK P nt lt rt rd T a ∧ subsOK P nt lt rt rd T r
theorem subsOK_mem {lt rt : Nat → Option LSpec} {rd : Bool} {T : List Nat} : ∀ {l : List Code}, subsOK P nt lt rt rd T l → ∀ a ∈ l, SubOK P nt lt rt rd T a
  | [], _, a, ha => by simp at ha
  | b :: r, h, a, ha => by
    rcases List.mem_cons.1 ha with rfl | ha
    · exact h.1
    · exact subsOK_mem h.2 a ha
theorem subs_ok {lt rt : Nat → Option LSpec} {rd : Bool} {T : List Nat} {c : Code} {l : List Code} (hc : subsOf c = l) (h : subsOK P nt lt rt rd T l) : ∀ a ∈ subsOf c, SubOK P nt lt rt rd T a := by
  rw [hc]; exact subsOK_mem h
theorem sub_loop {lt rt : Nat → Option LSpec} {rd : Bool} {T : List Nat} {a : Code} {i : Nat} {s0 : LSpec} (hf : firstRegion a = i) (hlt : lt i = some s0) (h : SpecR P nt rd T (.loop a) s0) : SubOK P nt lt rt rd T (.loop a) := by
  intro s hs
  rw [hf, hlt] at hs
  cases hs
  exact h
theorem sub_range {lt rt : Nat → Option LSpec} {g : Operand} {ps : Array Tmp} {as a : Code} {i : Nat} {s0 : LSpec} (hf : firstRegion a = i) (hrt : rt i = some s0) (h : SpecR P nt false [] (.rangeFunc g ps as a) s0) : SubOK P nt lt rt false [] (.rangeFunc g ps as a) := by
  intro _ s hs
  rw [hf, hrt] at hs
  cases hs
  exact h
/-- The parts of a range over a func, by its place. -/
def subAt (c : Code) (i : Nat) : Code := (subsOf c).getD i .skip
def inLoop : Code → Code
  | .loop a => a
  | .rangeFunc _ _ _ a => a
  | _ => .skip
def assignOf : Code → Code
  | .rangeFunc _ _ as _ => as
  | _ => .skip
def seqOp : Code → Operand
  | .rangeFunc g _ _ _ => g
  | _ => .const undef
def psOf : Code → Array Tmp
  | .rangeFunc _ ps _ _ => ps
  | _ => #[]
theorem sub_rangeC {lt rt : Nat → Option LSpec} {r : Code} {i : Nat} {s0 : LSpec} (hr : r = .rangeFunc (seqOp r) (psOf r) (assignOf r) (inLoop r)) (hf : firstRegion (inLoop r) = i) (hrt : rt i = some s0) (h : SpecR P nt false [] r s0) : SubOK P nt lt rt false [] r := by
  rw [hr] at h ⊢
  exact sub_range hf hrt h
theorem range_okC {E : Env} {keep : Nat} {lt rt : Nat → Option LSpec} (hE : EnvOK P E) (hP : ProgOK P) {r : Code} (hrc : r = .rangeFunc (seqOp r) (psOf r) (assignOf r) (inLoop r)) {gf : Nat} {fn : Func} {c : Code} {ts : List Ty} {ks : List Kd} {f : denT ts → Option (List (denK ks))}
    (hg : P.funcs[gf]? = some fn) (hc : fn.body = some c) (hit : IterOK P gf ts ks f)
    {sh : List (Nat × Kd)} {exits : List (Ex × List (Nat × Kd))} {step : Shape.den sh → denK ks → Option (Shape.den sh ⊕ exDen exits)} {cap : Shape.den sh → denT ts}
    (has : subsOf (assignOf r) = []) (hbd : ∀ b ∈ subsOf (inLoop r), SubOK P nt lt rt true (namesT sh 0) b)
    (hsq : ∀ x, seqOf gf ts sh (seqOp r) x = some (cap x))
    (hr : ∀ y e, roundG P E nt keep lt rt (psOf r).toList (assignOf r) (inLoop r) ks sh exits y e = step y e) :
    SpecR P nt false [] r ⟨sh, exits, runG sh exits (fun x => f (cap x)) step⟩ := by
  have := range_ok (g := seqOp r) (ps := psOf r) (as := assignOf r) (body := inLoop r) hE.callee hP.mixed hit (fun args w => enters hg (hP.names gf fn hg) (by rw [hc]; rfl) args w) (by rw [has]; intro b hb; cases hb) hbd (fun x l hl => ⟨cap x, hsq x, hl⟩) hr
  rw [← hrc] at this
  exact this
end
end Go.PM

/- The plain machine: slots that a code with ranges over funcs keeps. No program. -/
namespace Go.PM
open Go Go.RowKit
def codeReadsR : Code → Nat
  | .region _ ops _ => regionReads ops.toList ops.toList 0 0
  | .seq a b => codeReadsR a ||| codeReadsR b
  | .cond c a b => bitOf c ||| codeReadsR a ||| codeReadsR b
  | .block _ a => codeReadsR a
  | .loop a => codeReadsR a
  | .scope a => codeReadsR a
  | .rangeFunc g _ as a => bitOf g ||| codeReadsR as ||| codeReadsR a
  | _ => 0
def keepR (fn : Func) : Nat := match fn.body with
  | some c => resultReads fn.results.toList (codeReadsR c)
  | none => 0
end Go.PM
