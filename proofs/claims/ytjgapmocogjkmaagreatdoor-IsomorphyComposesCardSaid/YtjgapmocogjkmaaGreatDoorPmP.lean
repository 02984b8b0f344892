/- The plain machine, 16: which slots are used in more regions than one (by the code's text). No program. -/
import Derived.Test.YtjgapmocogjkmaaGreatDoorPmO
set_option linter.unusedSimpArgs false
set_option linter.unusedVariables false
namespace Go.PM
open Go Go.RowKit

def bitOf : Operand → Nat
  | .tmp t => 2 ^ t
  | _ => 0
def bitsOf (m : Nat) : List Operand → Nat
  | [] => m
  | .tmp t :: r => bitsOf (m ||| 2 ^ t) r
  | _ :: r => bitsOf m r
/-- The bits of m that are not in d. -/
def without (m d : Nat) : Nat := (m ||| d) ^^^ d
def guardBit (l : List Oper) (o : Oper) : Nat := match o.guard with
  | some (j, _) => match l[j]? with
    | some p => match p.dst with | some t => 2 ^ t | none => 0
    | none => 0
  | none => 0
/-- Slots read in a region ahead of being written there. -/
def regionReads (l : List Oper) : List Oper → Nat → Nat → Nat
  | [], _, acc => acc
  | o :: r, d, acc => regionReads l r (match o.dst with | some t => d ||| 2 ^ t | none => d) (acc ||| without (bitsOf (guardBit l o) o.op.operands.toList) d)
def codeReads : Code → Nat
  | .region _ ops _ => regionReads ops.toList ops.toList 0 0
  | .seq a b => codeReads a ||| codeReads b
  | .cond c a b => bitOf c ||| codeReads a ||| codeReads b
  | .block _ a => codeReads a
  | .loop a => codeReads a
  | .scope a => codeReads a
  | _ => 0
def resultReads : List ResultVar → Nat → Nat
  | [], m => m
  | .tmp t :: r, m => resultReads r (m ||| 2 ^ t)
  | .cell t _ :: r, m => resultReads r (m ||| 2 ^ t)
def keepOf (fn : Func) : Nat := match fn.body with
  | some c => resultReads fn.results.toList (codeReads c)
  | none => 0
/-- The bits of m below n, as a list. -/
def bitList (m : Nat) : Nat → List Nat → List Nat
  | 0, l => l
  | n + 1, l => bitList m n (bif bitAt m n then n :: l else l)
def cfgOf (P : Program) (g : FuncId) : Cfg := match P.funcs[g]? with
  | some fn => ⟨fn.ntmps, keepOf fn, bitList (keepOf fn) fn.ntmps [], [], 0⟩
  | none => ⟨0, 0, [], [], 0⟩
end Go.PM
