/- The plain machine, open runs: tables of functions. No program. -/
import Derived.Test.YtjgapmocogjkmaaGreatDoorPnB
set_option linter.unusedSimpArgs false
set_option linter.unusedVariables false
namespace Go.PM
open Go Go.RowKit

/-- A function that is known. -/
structure Ent where
  g : FuncId
  args : List Kd
  rets : List Kd
  f : denK args → Option (denK rets)
def Ent.OK (P : Program) (e : Ent) : Prop := FnOK P e.g e.args e.rets e.f
def pureE : List Ent → FuncId → List PV → Option Res
  | [], _, _ => none
  | e :: r, g, qs => bif Nat.beq e.g g then (match resOf e.args e.rets e.f qs with
      | some s => some s
      | none => pureE r g qs)
    else pureE r g qs
def envOf (l : List Ent) : Env := ⟨pureE l, fun _ _ _ => none, fun _ => false⟩
theorem pureE_ok {P : Program} : ∀ {l : List Ent}, (∀ e ∈ l, e.OK P) → ∀ g qs r, pureE l g qs = some r → ∀ y, r.val = some y → PureCall P g qs (r.out y)
  | [], _, g, qs, r, h => by cases h
  | e :: l, hl, g, qs, r, h => by
    simp only [pureE] at h
    cases hb : Nat.beq e.g g with
    | true =>
      rw [hb] at h
      have := Nat.eq_of_beq_eq_true hb
      subst this
      cases hs : resOf e.args e.rets e.f qs with
      | some s =>
        rw [hs] at h
        have h := Option.some.inj h
        subst h
        exact resOf_ok (hl e List.mem_cons_self) hs
      | none =>
        rw [hs] at h
        exact pureE_ok (fun e he => hl e (List.mem_cons_of_mem _ he)) _ qs r h
    | false =>
      rw [hb] at h
      exact pureE_ok (fun e he => hl e (List.mem_cons_of_mem _ he)) g qs r h
theorem envOf_ok {P : Program} {l : List Ent} (hl : ∀ e ∈ l, e.OK P) : EnvOK P (envOf l) where
  pure := pureE_ok hl
  shr := fun _ _ _ _ h => by cases h

def entsOK (P : Program) : List Ent → Prop
  | [] => True
  | e :: r => e.OK P ∧ entsOK P r
theorem entsOK_mem {P : Program} : ∀ {l : List Ent}, entsOK P l → ∀ e ∈ l, e.OK P
  | [], _, e, he => by simp at he
  | a :: r, h, e, he => by
    rcases List.mem_cons.1 he with rfl | he
    · exact h.1
    · exact entsOK_mem h.2 e he
theorem env_ok {P : Program} {l : List Ent} (h : entsOK P l) : EnvOK P (envOf l) := envOf_ok (entsOK_mem h)
def loopsOK (P : Program) (nt : Nat) (lt : Nat → Option LSpec) : List Code → Prop
  | [] => True
  | a :: r => (∀ s, lt (firstRegion a) = some s → SpecOK P nt a s) ∧ loopsOK P nt lt r
theorem loopsOK_mem {P : Program} {nt : Nat} {lt : Nat → Option LSpec} : ∀ {l : List Code}, loopsOK P nt lt l → ∀ a ∈ l, ∀ s, lt (firstRegion a) = some s → SpecOK P nt a s
  | [], _, a, ha => by simp at ha
  | b :: r, h, a, ha => by
    rcases List.mem_cons.1 ha with rfl | ha
    · exact h.1
    · exact loopsOK_mem h.2 a ha
theorem loops_ok {P : Program} {nt : Nat} {lt : Nat → Option LSpec} {c : Code} {l : List Code} (hc : loopsOf c = l) (h : loopsOK P nt lt l) : ∀ a ∈ loopsOf c, ∀ s, lt (firstRegion a) = some s → SpecOK P nt a s := by
  rw [hc]; exact loopsOK_mem h
theorem spec_of {P : Program} {nt : Nat} {lt : Nat → Option LSpec} {a : Code} {i : Nat} {s0 : LSpec} (hf : firstRegion a = i) (hlt : lt i = some s0) (h : SpecOK P nt a s0) : ∀ s, lt (firstRegion a) = some s → SpecOK P nt a s := by
  intro s hs
  rw [hf, hlt] at hs
  cases hs
  exact h

def bodyOf (fn : Func) : Code := match fn.body with
  | some c => c
  | none => .skip
def loopAt (c : Code) (i : Nat) : Code := (loopsOf c).getD i .skip
def namesOk (l : List Func) : Bool := l.all fun f => !(f.name == "runtime.NumGoroutine")
theorem progOK_of {P : Program} (h1 : P.follows .mixedOrders = true) (h2 : namesOk P.funcs.toList = true) : ProgOK P where
  mixed := h1
  names g fn hg := by
    have hm : fn ∈ P.funcs.toList := by
      rw [← Array.getElem?_toList] at hg
      exact List.mem_of_getElem? hg
    have := List.all_eq_true.1 h2 fn hm
    simpa using this
end Go.PM
