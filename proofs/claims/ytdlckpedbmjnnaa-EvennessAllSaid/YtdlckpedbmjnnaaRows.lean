/-
  No cell of these rows narrows 'for every input' (looked for: loops, veiled, ifaces, maps, wideKeys, modest, calm, conditions, laid).
  DERIVED. THE GIVEN ROWS OF THIS SEAT. 9 by the template 'for every input the law returns true; each argument reads behind the call as it read before'; 0 by the template 'total and deterministic' (their statements: YtdlckpedbmjnnaaTotals.lean).
  GIVEN WITH THE SEED: the statements are not yours to turn. If you find one false, say at which input.
  Laid BY PROGRAM, IN A SANDBOX (cutbox-rows.mjs): the forced cells as the released guide's own fill.sh prints them over the translation ac85feb3adaae21c… (all of the seat's roots in one cut). By AI agents, Wed Nov 11 2026. No macro, syntax, notation, axiom, sorry.
-/
import Derived.Test.YtdlckpedbmjnnaaChecked
import GoSem.Claim
import GoSem.ClaimJoined
import GoSem.ClaimMapViews
import Derived.JoinedTies
import Derived.KernelRfl
namespace Go.Proofs.Ytdlckpedbmjnnaa
/- THE CELL 'sum', in the pinned program and in every row, IS THE sha256 OF THE DUMP (.gsa) THAT YtdlckpedbmjnnaaProg.lean LOADS. Nothing in Lean hashes anything: it is a label: what it is worth is what the hold of that sum in a sandbox is worth. -/
noncomputable def Try.pinned : Pinned := { name := "ytdlckpedbmjnnaa", sum := "ac85feb3adaae21c2aefe4e2fd21da8e3ceb3fe7cdbe0cc132c7e4d5a18c21c1", checked := Try.checked }
namespace Rows
def none {H : Type} : Left H := { results := [], args := [] }

/-- 'schismalaw35.EvennessMakes': WHATEVER THE INPUT: true; the input reads as it did. -/
def evennessMakesSpec : ChangeSpec := { name := "evennessMakes", fn := fun _ => fun
  | [d1, d2, d3] => { results := [.lit (.bool true)], args := [d1, d2, d3] }
  | _ => none }
def evennessMakesRow : OpenClaim := { program := "ytdlckpedbmjnnaa", sum := "ac85feb3adaae21c2aefe4e2fd21da8e3ceb3fe7cdbe0cc132c7e4d5a18c21c1", func := "schisma/schismalaw35.EvennessMakes", spec := "evennessMakes", unfollowed := true, recurses := true, apart := false }
def EvennessMakesSaid : Prop := evennessMakesRow.holds Try.pinned (OpenSpec.ofChange evennessMakesSpec)

/-- ITS FALSE NEIGHBOUR: 'it returns false'. Refute it at one input. -/
def evennessMakesWrong : ChangeSpec := { name := "evennessMakes", fn := fun _ => fun
  | [d1, d2, d3] => { results := [.lit (.bool false)], args := [d1, d2, d3] }
  | _ => none }
def EvennessMakesWrongFalsely : Prop := evennessMakesRow.holds Try.pinned (OpenSpec.ofChange evennessMakesWrong)

/-- 'schismalaw35.EvennessGenerates': WHATEVER THE INPUT: true; the input reads as it did. -/
def evennessGeneratesSpec : ChangeSpec := { name := "evennessGenerates", fn := fun _ => fun
  | [d1, d2, d3] => { results := [.lit (.bool true)], args := [d1, d2, d3] }
  | _ => none }
def evennessGeneratesRow : OpenClaim := { program := "ytdlckpedbmjnnaa", sum := "ac85feb3adaae21c2aefe4e2fd21da8e3ceb3fe7cdbe0cc132c7e4d5a18c21c1", func := "schisma/schismalaw35.EvennessGenerates", spec := "evennessGenerates", unfollowed := true, recurses := true, apart := false }
def EvennessGeneratesSaid : Prop := evennessGeneratesRow.holds Try.pinned (OpenSpec.ofChange evennessGeneratesSpec)

/-- ITS FALSE NEIGHBOUR: 'it returns false'. Refute it at one input. -/
def evennessGeneratesWrong : ChangeSpec := { name := "evennessGenerates", fn := fun _ => fun
  | [d1, d2, d3] => { results := [.lit (.bool false)], args := [d1, d2, d3] }
  | _ => none }
def EvennessGeneratesWrongFalsely : Prop := evennessGeneratesRow.holds Try.pinned (OpenSpec.ofChange evennessGeneratesWrong)

/-- 'schismalaw35.EvennessGenerators': WHATEVER THE INPUT: true; the input reads as it did. -/
def evennessGeneratorsSpec : ChangeSpec := { name := "evennessGenerators", fn := fun _ => fun
  | [d] => { results := [.lit (.bool true)], args := [d] }
  | _ => none }
def evennessGeneratorsRow : OpenClaim := { program := "ytdlckpedbmjnnaa", sum := "ac85feb3adaae21c2aefe4e2fd21da8e3ceb3fe7cdbe0cc132c7e4d5a18c21c1", func := "schisma/schismalaw35.EvennessGenerators", spec := "evennessGenerators", unfollowed := true, recurses := true, apart := false }
def EvennessGeneratorsSaid : Prop := evennessGeneratorsRow.holds Try.pinned (OpenSpec.ofChange evennessGeneratorsSpec)

/-- ITS FALSE NEIGHBOUR: 'it returns false'. Refute it at one input. -/
def evennessGeneratorsWrong : ChangeSpec := { name := "evennessGenerators", fn := fun _ => fun
  | [d] => { results := [.lit (.bool false)], args := [d] }
  | _ => none }
def EvennessGeneratorsWrongFalsely : Prop := evennessGeneratorsRow.holds Try.pinned (OpenSpec.ofChange evennessGeneratorsWrong)

/-- 'schismalaw35.EvennessAll': WHATEVER THE INPUT: true; the input reads as it did. -/
def evennessAllSpec : ChangeSpec := { name := "evennessAll", fn := fun _ => fun
  | [d1, d2] => { results := [.lit (.bool true)], args := [d1, d2] }
  | _ => none }
def evennessAllRow : OpenClaim := { program := "ytdlckpedbmjnnaa", sum := "ac85feb3adaae21c2aefe4e2fd21da8e3ceb3fe7cdbe0cc132c7e4d5a18c21c1", func := "schisma/schismalaw35.EvennessAll", spec := "evennessAll", unfollowed := true, recurses := true, apart := false }
def EvennessAllSaid : Prop := evennessAllRow.holds Try.pinned (OpenSpec.ofChange evennessAllSpec)

/-- ITS FALSE NEIGHBOUR: 'it returns false'. Refute it at one input. -/
def evennessAllWrong : ChangeSpec := { name := "evennessAll", fn := fun _ => fun
  | [d1, d2] => { results := [.lit (.bool false)], args := [d1, d2] }
  | _ => none }
def EvennessAllWrongFalsely : Prop := evennessAllRow.holds Try.pinned (OpenSpec.ofChange evennessAllWrong)

/-- 'schismalaw35.EvennessKeeps': WHATEVER THE INPUT: true; the input reads as it did. -/
def evennessKeepsSpec : ChangeSpec := { name := "evennessKeeps", fn := fun _ => fun
  | [d1, d2, d3] => { results := [.lit (.bool true)], args := [d1, d2, d3] }
  | _ => none }
def evennessKeepsRow : OpenClaim := { program := "ytdlckpedbmjnnaa", sum := "ac85feb3adaae21c2aefe4e2fd21da8e3ceb3fe7cdbe0cc132c7e4d5a18c21c1", func := "schisma/schismalaw35.EvennessKeeps", spec := "evennessKeeps", unfollowed := true, recurses := true, apart := false }
def EvennessKeepsSaid : Prop := evennessKeepsRow.holds Try.pinned (OpenSpec.ofChange evennessKeepsSpec)

/-- ITS FALSE NEIGHBOUR: 'it returns false'. Refute it at one input. -/
def evennessKeepsWrong : ChangeSpec := { name := "evennessKeeps", fn := fun _ => fun
  | [d1, d2, d3] => { results := [.lit (.bool false)], args := [d1, d2, d3] }
  | _ => none }
def EvennessKeepsWrongFalsely : Prop := evennessKeepsRow.holds Try.pinned (OpenSpec.ofChange evennessKeepsWrong)

/-- 'schismalaw35.EvennessSpectra': WHATEVER THE INPUT: true; the input reads as it did. -/
def evennessSpectraSpec : ChangeSpec := { name := "evennessSpectra", fn := fun _ => fun
  | [d1, d2] => { results := [.lit (.bool true)], args := [d1, d2] }
  | _ => none }
def evennessSpectraRow : OpenClaim := { program := "ytdlckpedbmjnnaa", sum := "ac85feb3adaae21c2aefe4e2fd21da8e3ceb3fe7cdbe0cc132c7e4d5a18c21c1", func := "schisma/schismalaw35.EvennessSpectra", spec := "evennessSpectra", unfollowed := true, recurses := true, apart := false }
def EvennessSpectraSaid : Prop := evennessSpectraRow.holds Try.pinned (OpenSpec.ofChange evennessSpectraSpec)

/-- ITS FALSE NEIGHBOUR: 'it returns false'. Refute it at one input. -/
def evennessSpectraWrong : ChangeSpec := { name := "evennessSpectra", fn := fun _ => fun
  | [d1, d2] => { results := [.lit (.bool false)], args := [d1, d2] }
  | _ => none }
def EvennessSpectraWrongFalsely : Prop := evennessSpectraRow.holds Try.pinned (OpenSpec.ofChange evennessSpectraWrong)

/-- 'schismalaw35.EvennessClasses': WHATEVER THE INPUT: true; the input reads as it did. -/
def evennessClassesSpec : ChangeSpec := { name := "evennessClasses", fn := fun _ => fun
  | [d1, d2] => { results := [.lit (.bool true)], args := [d1, d2] }
  | _ => none }
def evennessClassesRow : OpenClaim := { program := "ytdlckpedbmjnnaa", sum := "ac85feb3adaae21c2aefe4e2fd21da8e3ceb3fe7cdbe0cc132c7e4d5a18c21c1", func := "schisma/schismalaw35.EvennessClasses", spec := "evennessClasses", unfollowed := true, recurses := true, apart := false }
def EvennessClassesSaid : Prop := evennessClassesRow.holds Try.pinned (OpenSpec.ofChange evennessClassesSpec)

/-- ITS FALSE NEIGHBOUR: 'it returns false'. Refute it at one input. -/
def evennessClassesWrong : ChangeSpec := { name := "evennessClasses", fn := fun _ => fun
  | [d1, d2] => { results := [.lit (.bool false)], args := [d1, d2] }
  | _ => none }
def EvennessClassesWrongFalsely : Prop := evennessClassesRow.holds Try.pinned (OpenSpec.ofChange evennessClassesWrong)

/-- 'schismalaw35.EvennessMoves': WHATEVER THE INPUT: true; the input reads as it did. -/
def evennessMovesSpec : ChangeSpec := { name := "evennessMoves", fn := fun _ => fun
  | [d1, d2] => { results := [.lit (.bool true)], args := [d1, d2] }
  | _ => none }
def evennessMovesRow : OpenClaim := { program := "ytdlckpedbmjnnaa", sum := "ac85feb3adaae21c2aefe4e2fd21da8e3ceb3fe7cdbe0cc132c7e4d5a18c21c1", func := "schisma/schismalaw35.EvennessMoves", spec := "evennessMoves", unfollowed := true, recurses := true, apart := false }
def EvennessMovesSaid : Prop := evennessMovesRow.holds Try.pinned (OpenSpec.ofChange evennessMovesSpec)

/-- ITS FALSE NEIGHBOUR: 'it returns false'. Refute it at one input. -/
def evennessMovesWrong : ChangeSpec := { name := "evennessMoves", fn := fun _ => fun
  | [d1, d2] => { results := [.lit (.bool false)], args := [d1, d2] }
  | _ => none }
def EvennessMovesWrongFalsely : Prop := evennessMovesRow.holds Try.pinned (OpenSpec.ofChange evennessMovesWrong)

/-- 'schismalaw35.EvennessChecks': WHATEVER THE INPUT: true; the input reads as it did. -/
def evennessChecksSpec : ChangeSpec := { name := "evennessChecks", fn := fun _ => fun
  | [d1, d2] => { results := [.lit (.bool true)], args := [d1, d2] }
  | _ => none }
def evennessChecksRow : OpenClaim := { program := "ytdlckpedbmjnnaa", sum := "ac85feb3adaae21c2aefe4e2fd21da8e3ceb3fe7cdbe0cc132c7e4d5a18c21c1", func := "schisma/schismalaw35.EvennessChecks", spec := "evennessChecks", unfollowed := true, recurses := true, apart := false }
def EvennessChecksSaid : Prop := evennessChecksRow.holds Try.pinned (OpenSpec.ofChange evennessChecksSpec)

/-- ITS FALSE NEIGHBOUR: 'it returns false'. Refute it at one input. -/
def evennessChecksWrong : ChangeSpec := { name := "evennessChecks", fn := fun _ => fun
  | [d1, d2] => { results := [.lit (.bool false)], args := [d1, d2] }
  | _ => none }
def EvennessChecksWrongFalsely : Prop := evennessChecksRow.holds Try.pinned (OpenSpec.ofChange evennessChecksWrong)

/- THE SECOND FORM. 'bulk': how many values and letters a reading holds, each counted each time it is reached (what is shared counts as often as it is met; a slice's spare places count too). A statement '..UptoSaid' is the law's where the arguments, and the package variables that the reading takes, are together of bulk at most 1048576: NARROWER than '..Said'. Prove '..Said' where nothing that the law and all that it calls make is longer than what came in: it says more and counts as full. Else prove '..UptoSaid'. A law counts once. -/
mutual
def uptoBulk {H : Type} : DataW H → Nat
  | .lit (.string bytes) => bytes.length + 1
  | .lit _ => 1
  | .nil => 1
  | .ptr d => uptoBulk d + 1
  | .slice elems spare => uptoBulkAll elems + uptoBulkAll spare + 1
  | .agg parts => uptoBulkAll parts + 1
  | .iface _ d => uptoBulk d + 1
  | .map entries => uptoBulkEntries entries + 1
  | .held _ => 1
def uptoBulkAll {H : Type} : List (DataW H) → Nat
  | [] => 0
  | d :: r => uptoBulk d + uptoBulkAll r
def uptoBulkEntries {H : Type} : List (Lit × DataW H) → Nat
  | [] => 0
  | x :: r => uptoBulkEntry x + uptoBulkEntries r
def uptoBulkEntry {H : Type} : Lit × DataW H → Nat
  | (.string bytes, d) => bytes.length + uptoBulk d + 1
  | (_, d) => uptoBulk d + 1
 end
def uptoSmall : (H : Type) → List (DataW H) → Bool := fun _ ds => decide (uptoBulkAll ds ≤ 1048576)
def OpenSpec.upto (s : _root_.Go.ChangeSpec) : _root_.Go.OpenSpec := { _root_.Go.OpenSpec.ofChange s with cond := some uptoSmall }

/-- 'schismalaw35.EvennessMakes', WHERE WHAT IT READS IS OF BULK AT MOST 1048576: true; the input reads as it did. -/
def evennessMakesUptoRow : OpenClaim := { program := "ytdlckpedbmjnnaa", sum := "ac85feb3adaae21c2aefe4e2fd21da8e3ceb3fe7cdbe0cc132c7e4d5a18c21c1", func := "schisma/schismalaw35.EvennessMakes", spec := "evennessMakes", unfollowed := true, recurses := true, apart := false, narrowed := true }
def EvennessMakesUptoSaid : Prop := evennessMakesUptoRow.holds Try.pinned (OpenSpec.upto evennessMakesSpec)

/-- 'schismalaw35.EvennessGenerates', WHERE WHAT IT READS IS OF BULK AT MOST 1048576: true; the input reads as it did. -/
def evennessGeneratesUptoRow : OpenClaim := { program := "ytdlckpedbmjnnaa", sum := "ac85feb3adaae21c2aefe4e2fd21da8e3ceb3fe7cdbe0cc132c7e4d5a18c21c1", func := "schisma/schismalaw35.EvennessGenerates", spec := "evennessGenerates", unfollowed := true, recurses := true, apart := false, narrowed := true }
def EvennessGeneratesUptoSaid : Prop := evennessGeneratesUptoRow.holds Try.pinned (OpenSpec.upto evennessGeneratesSpec)

/-- 'schismalaw35.EvennessGenerators', WHERE WHAT IT READS IS OF BULK AT MOST 1048576: true; the input reads as it did. -/
def evennessGeneratorsUptoRow : OpenClaim := { program := "ytdlckpedbmjnnaa", sum := "ac85feb3adaae21c2aefe4e2fd21da8e3ceb3fe7cdbe0cc132c7e4d5a18c21c1", func := "schisma/schismalaw35.EvennessGenerators", spec := "evennessGenerators", unfollowed := true, recurses := true, apart := false, narrowed := true }
def EvennessGeneratorsUptoSaid : Prop := evennessGeneratorsUptoRow.holds Try.pinned (OpenSpec.upto evennessGeneratorsSpec)

/-- 'schismalaw35.EvennessAll', WHERE WHAT IT READS IS OF BULK AT MOST 1048576: true; the input reads as it did. -/
def evennessAllUptoRow : OpenClaim := { program := "ytdlckpedbmjnnaa", sum := "ac85feb3adaae21c2aefe4e2fd21da8e3ceb3fe7cdbe0cc132c7e4d5a18c21c1", func := "schisma/schismalaw35.EvennessAll", spec := "evennessAll", unfollowed := true, recurses := true, apart := false, narrowed := true }
def EvennessAllUptoSaid : Prop := evennessAllUptoRow.holds Try.pinned (OpenSpec.upto evennessAllSpec)

/-- 'schismalaw35.EvennessKeeps', WHERE WHAT IT READS IS OF BULK AT MOST 1048576: true; the input reads as it did. -/
def evennessKeepsUptoRow : OpenClaim := { program := "ytdlckpedbmjnnaa", sum := "ac85feb3adaae21c2aefe4e2fd21da8e3ceb3fe7cdbe0cc132c7e4d5a18c21c1", func := "schisma/schismalaw35.EvennessKeeps", spec := "evennessKeeps", unfollowed := true, recurses := true, apart := false, narrowed := true }
def EvennessKeepsUptoSaid : Prop := evennessKeepsUptoRow.holds Try.pinned (OpenSpec.upto evennessKeepsSpec)

/-- 'schismalaw35.EvennessSpectra', WHERE WHAT IT READS IS OF BULK AT MOST 1048576: true; the input reads as it did. -/
def evennessSpectraUptoRow : OpenClaim := { program := "ytdlckpedbmjnnaa", sum := "ac85feb3adaae21c2aefe4e2fd21da8e3ceb3fe7cdbe0cc132c7e4d5a18c21c1", func := "schisma/schismalaw35.EvennessSpectra", spec := "evennessSpectra", unfollowed := true, recurses := true, apart := false, narrowed := true }
def EvennessSpectraUptoSaid : Prop := evennessSpectraUptoRow.holds Try.pinned (OpenSpec.upto evennessSpectraSpec)

/-- 'schismalaw35.EvennessClasses', WHERE WHAT IT READS IS OF BULK AT MOST 1048576: true; the input reads as it did. -/
def evennessClassesUptoRow : OpenClaim := { program := "ytdlckpedbmjnnaa", sum := "ac85feb3adaae21c2aefe4e2fd21da8e3ceb3fe7cdbe0cc132c7e4d5a18c21c1", func := "schisma/schismalaw35.EvennessClasses", spec := "evennessClasses", unfollowed := true, recurses := true, apart := false, narrowed := true }
def EvennessClassesUptoSaid : Prop := evennessClassesUptoRow.holds Try.pinned (OpenSpec.upto evennessClassesSpec)

/-- 'schismalaw35.EvennessMoves', WHERE WHAT IT READS IS OF BULK AT MOST 1048576: true; the input reads as it did. -/
def evennessMovesUptoRow : OpenClaim := { program := "ytdlckpedbmjnnaa", sum := "ac85feb3adaae21c2aefe4e2fd21da8e3ceb3fe7cdbe0cc132c7e4d5a18c21c1", func := "schisma/schismalaw35.EvennessMoves", spec := "evennessMoves", unfollowed := true, recurses := true, apart := false, narrowed := true }
def EvennessMovesUptoSaid : Prop := evennessMovesUptoRow.holds Try.pinned (OpenSpec.upto evennessMovesSpec)

/-- 'schismalaw35.EvennessChecks', WHERE WHAT IT READS IS OF BULK AT MOST 1048576: true; the input reads as it did. -/
def evennessChecksUptoRow : OpenClaim := { program := "ytdlckpedbmjnnaa", sum := "ac85feb3adaae21c2aefe4e2fd21da8e3ceb3fe7cdbe0cc132c7e4d5a18c21c1", func := "schisma/schismalaw35.EvennessChecks", spec := "evennessChecks", unfollowed := true, recurses := true, apart := false, narrowed := true }
def EvennessChecksUptoSaid : Prop := evennessChecksUptoRow.holds Try.pinned (OpenSpec.upto evennessChecksSpec)

end Rows
end Go.Proofs.Ytdlckpedbmjnnaa
