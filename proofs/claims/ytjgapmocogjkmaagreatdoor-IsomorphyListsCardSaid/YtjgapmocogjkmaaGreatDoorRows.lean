/-
  NARROWER THAN 'FOR EVERY INPUT', by the rows' own cells (each row's printed sentence says how): IsomorphyTurns: laid · IsomorphyShifts: laid · IsomorphySymmetries: laid · IsomorphyChecks: laid · IsomorphyForms: laid · IsomorphyMoves: laid · IsomorphyComposes: laid · IsomorphyBoxes: laid · IsomorphyLists: laid.
  DERIVED. THE GIVEN ROWS OF THIS SEAT. 9 by the template 'for every input the law returns true; each argument reads behind the call as it read before'; 0 by the template 'total and deterministic' (their statements: YtjgapmocogjkmaaGreatDoorTotals.lean).
  GIVEN WITH THE SEED: the statements are not yours to turn. If you find one false, say at which input.
  Laid BY PROGRAM, IN A SANDBOX (cutbox-rows.mjs): the forced cells as the released guide's own fill.sh prints them over the translation c8c042405c4cd1ab… (all of the seat's roots in one cut). By AI agents, Wed Nov 11 2026. No macro, syntax, notation, axiom, sorry.
-/
import Derived.Test.YtjgapmocogjkmaaGreatDoorChecked
import GoSem.Claim
import GoSem.ClaimJoined
import GoSem.ClaimMapViews
import Derived.JoinedTies
import Derived.KernelRfl
namespace Go.Proofs.YtjgapmocogjkmaaGreatDoor
/- THE CELL 'sum', in the pinned program and in every row, IS THE sha256 OF THE DUMP (.gsa) THAT YtjgapmocogjkmaaGreatDoorProg.lean LOADS. Nothing in Lean hashes anything: it is a label: what it is worth is what the hold of that sum in a sandbox is worth. -/
noncomputable def Tryz.pinned : Pinned := { name := "ytjgapmocogjkmaagreatdoor", sum := "c8c042405c4cd1ab7af10cd11bc99e6ef73c9fa1563b64b9653836f4d6bf6b4f", checked := Tryz.checked }
namespace Rows
def none {H : Type} : Left H := { results := [], args := [] }

/- WHAT THE LISTED PACKAGE-LEVEL VARIABLES READ AS WHEN THE CALL BEGINS. Each datum BY PROGRAM (the guide's laid-datum.mjs) off the statement by which the dump's own 'gosem.cut.vars' lays the variable. In a bare row this is a premise. The card (YtjgapmocogjkmaaGreatDoorCards.lean) ties it to the program's text. -/
def laid_math_bits_deBruijn32tab {H : Type} : DataW H := .agg [.lit (.int .u8 0), .lit (.int .u8 1), .lit (.int .u8 28), .lit (.int .u8 2), .lit (.int .u8 29), .lit (.int .u8 14), .lit (.int .u8 24), .lit (.int .u8 3), .lit (.int .u8 30), .lit (.int .u8 22), .lit (.int .u8 20), .lit (.int .u8 15), .lit (.int .u8 25), .lit (.int .u8 17), .lit (.int .u8 4), .lit (.int .u8 8), .lit (.int .u8 31), .lit (.int .u8 27), .lit (.int .u8 13), .lit (.int .u8 23), .lit (.int .u8 21), .lit (.int .u8 19), .lit (.int .u8 16), .lit (.int .u8 7), .lit (.int .u8 26), .lit (.int .u8 12), .lit (.int .u8 18), .lit (.int .u8 6), .lit (.int .u8 11), .lit (.int .u8 5), .lit (.int .u8 10), .lit (.int .u8 9)]
def laid_math_bits_deBruijn64tab {H : Type} : DataW H := .agg [.lit (.int .u8 0), .lit (.int .u8 1), .lit (.int .u8 56), .lit (.int .u8 2), .lit (.int .u8 57), .lit (.int .u8 49), .lit (.int .u8 28), .lit (.int .u8 3), .lit (.int .u8 61), .lit (.int .u8 58), .lit (.int .u8 42), .lit (.int .u8 50), .lit (.int .u8 38), .lit (.int .u8 29), .lit (.int .u8 17), .lit (.int .u8 4), .lit (.int .u8 62), .lit (.int .u8 47), .lit (.int .u8 59), .lit (.int .u8 36), .lit (.int .u8 45), .lit (.int .u8 43), .lit (.int .u8 51), .lit (.int .u8 22), .lit (.int .u8 53), .lit (.int .u8 39), .lit (.int .u8 33), .lit (.int .u8 30), .lit (.int .u8 24), .lit (.int .u8 18), .lit (.int .u8 12), .lit (.int .u8 5), .lit (.int .u8 63), .lit (.int .u8 55), .lit (.int .u8 48), .lit (.int .u8 27), .lit (.int .u8 60), .lit (.int .u8 41), .lit (.int .u8 37), .lit (.int .u8 16), .lit (.int .u8 46), .lit (.int .u8 35), .lit (.int .u8 44), .lit (.int .u8 21), .lit (.int .u8 52), .lit (.int .u8 32), .lit (.int .u8 23), .lit (.int .u8 11), .lit (.int .u8 54), .lit (.int .u8 26), .lit (.int .u8 40), .lit (.int .u8 15), .lit (.int .u8 34), .lit (.int .u8 20), .lit (.int .u8 31), .lit (.int .u8 10), .lit (.int .u8 25), .lit (.int .u8 14), .lit (.int .u8 19), .lit (.int .u8 9), .lit (.int .u8 13), .lit (.int .u8 8), .lit (.int .u8 7), .lit (.int .u8 6)]
def laid_internal_strconv_uint64pow10 {H : Type} : DataW H := .agg [.lit (.int .u64 1), .lit (.int .u64 10), .lit (.int .u64 100), .lit (.int .u64 1000), .lit (.int .u64 10000), .lit (.int .u64 100000), .lit (.int .u64 1000000), .lit (.int .u64 10000000), .lit (.int .u64 100000000), .lit (.int .u64 1000000000), .lit (.int .u64 10000000000), .lit (.int .u64 100000000000), .lit (.int .u64 1000000000000), .lit (.int .u64 10000000000000), .lit (.int .u64 100000000000000), .lit (.int .u64 1000000000000000), .lit (.int .u64 10000000000000000), .lit (.int .u64 100000000000000000), .lit (.int .u64 1000000000000000000), .lit (.int .u64 10000000000000000000)]
def laid_strconv_ErrRange {H : Type} : DataW H := .iface "*errors.errorString" (.ptr (.agg [.lit (.string [118, 97, 108, 117, 101, 32, 111, 117, 116, 32, 111, 102, 32, 114, 97, 110, 103, 101])]))
def laid_strconv_ErrSyntax {H : Type} : DataW H := .iface "*errors.errorString" (.ptr (.agg [.lit (.string [105, 110, 118, 97, 108, 105, 100, 32, 115, 121, 110, 116, 97, 120])]))

/-- 'schismalaw46.IsomorphyTurns': WHATEVER THE INPUT: true; the input reads as it did. -/
def isomorphyTurnsSpec : ChangeSpec := { name := "isomorphyTurns", fn := fun _ => fun
  | [d1, d2] => { results := [.lit (.bool true)], args := [d1, d2] }
  | _ => none }
def isomorphyTurnsRow : OpenClaim := { program := "ytjgapmocogjkmaagreatdoor", sum := "c8c042405c4cd1ab7af10cd11bc99e6ef73c9fa1563b64b9653836f4d6bf6b4f", func := "schisma/schismalaw46.IsomorphyTurns", spec := "isomorphyTurns", unfollowed := true, recurses := true, named := ["internal/strconv.uint64pow10", "math/bits.deBruijn32tab", "math/bits.deBruijn64tab", "strconv.ErrSyntax", "strconv.ErrRange"], apart := false, laid := [("math/bits.deBruijn32tab", laid_math_bits_deBruijn32tab), ("math/bits.deBruijn64tab", laid_math_bits_deBruijn64tab), ("internal/strconv.uint64pow10", laid_internal_strconv_uint64pow10), ("strconv.ErrRange", laid_strconv_ErrRange), ("strconv.ErrSyntax", laid_strconv_ErrSyntax)] }
def IsomorphyTurnsSaid : Prop := isomorphyTurnsRow.holds Tryz.pinned (OpenSpec.ofChange isomorphyTurnsSpec)

/-- ITS FALSE NEIGHBOUR: 'it returns false'. Refute it at one input. -/
def isomorphyTurnsWrong : ChangeSpec := { name := "isomorphyTurns", fn := fun _ => fun
  | [d1, d2] => { results := [.lit (.bool false)], args := [d1, d2] }
  | _ => none }
def IsomorphyTurnsWrongFalsely : Prop := isomorphyTurnsRow.holds Tryz.pinned (OpenSpec.ofChange isomorphyTurnsWrong)

/-- 'schismalaw46.IsomorphyShifts': WHATEVER THE INPUT: true; the input reads as it did. -/
def isomorphyShiftsSpec : ChangeSpec := { name := "isomorphyShifts", fn := fun _ => fun
  | [d1, d2, d3] => { results := [.lit (.bool true)], args := [d1, d2, d3] }
  | _ => none }
def isomorphyShiftsRow : OpenClaim := { program := "ytjgapmocogjkmaagreatdoor", sum := "c8c042405c4cd1ab7af10cd11bc99e6ef73c9fa1563b64b9653836f4d6bf6b4f", func := "schisma/schismalaw46.IsomorphyShifts", spec := "isomorphyShifts", unfollowed := true, recurses := true, named := ["internal/strconv.uint64pow10", "math/bits.deBruijn32tab", "math/bits.deBruijn64tab", "strconv.ErrSyntax", "strconv.ErrRange"], apart := false, laid := [("math/bits.deBruijn32tab", laid_math_bits_deBruijn32tab), ("math/bits.deBruijn64tab", laid_math_bits_deBruijn64tab), ("internal/strconv.uint64pow10", laid_internal_strconv_uint64pow10), ("strconv.ErrRange", laid_strconv_ErrRange), ("strconv.ErrSyntax", laid_strconv_ErrSyntax)] }
def IsomorphyShiftsSaid : Prop := isomorphyShiftsRow.holds Tryz.pinned (OpenSpec.ofChange isomorphyShiftsSpec)

/-- ITS FALSE NEIGHBOUR: 'it returns false'. Refute it at one input. -/
def isomorphyShiftsWrong : ChangeSpec := { name := "isomorphyShifts", fn := fun _ => fun
  | [d1, d2, d3] => { results := [.lit (.bool false)], args := [d1, d2, d3] }
  | _ => none }
def IsomorphyShiftsWrongFalsely : Prop := isomorphyShiftsRow.holds Tryz.pinned (OpenSpec.ofChange isomorphyShiftsWrong)

/-- 'schismalaw46.IsomorphySymmetries': WHATEVER THE INPUT: true; the input reads as it did. -/
def isomorphySymmetriesSpec : ChangeSpec := { name := "isomorphySymmetries", fn := fun _ => fun
  | [d1, d2, d3] => { results := [.lit (.bool true)], args := [d1, d2, d3] }
  | _ => none }
def isomorphySymmetriesRow : OpenClaim := { program := "ytjgapmocogjkmaagreatdoor", sum := "c8c042405c4cd1ab7af10cd11bc99e6ef73c9fa1563b64b9653836f4d6bf6b4f", func := "schisma/schismalaw46.IsomorphySymmetries", spec := "isomorphySymmetries", unfollowed := true, recurses := true, named := ["internal/strconv.uint64pow10", "math/bits.deBruijn32tab", "math/bits.deBruijn64tab", "strconv.ErrSyntax", "strconv.ErrRange"], apart := false, laid := [("math/bits.deBruijn32tab", laid_math_bits_deBruijn32tab), ("math/bits.deBruijn64tab", laid_math_bits_deBruijn64tab), ("internal/strconv.uint64pow10", laid_internal_strconv_uint64pow10), ("strconv.ErrRange", laid_strconv_ErrRange), ("strconv.ErrSyntax", laid_strconv_ErrSyntax)] }
def IsomorphySymmetriesSaid : Prop := isomorphySymmetriesRow.holds Tryz.pinned (OpenSpec.ofChange isomorphySymmetriesSpec)

/-- ITS FALSE NEIGHBOUR: 'it returns false'. Refute it at one input. -/
def isomorphySymmetriesWrong : ChangeSpec := { name := "isomorphySymmetries", fn := fun _ => fun
  | [d1, d2, d3] => { results := [.lit (.bool false)], args := [d1, d2, d3] }
  | _ => none }
def IsomorphySymmetriesWrongFalsely : Prop := isomorphySymmetriesRow.holds Tryz.pinned (OpenSpec.ofChange isomorphySymmetriesWrong)

/-- 'schismalaw46.IsomorphyChecks': WHATEVER THE INPUT: true; the input reads as it did. -/
def isomorphyChecksSpec : ChangeSpec := { name := "isomorphyChecks", fn := fun _ => fun
  | [d1, d2] => { results := [.lit (.bool true)], args := [d1, d2] }
  | _ => none }
def isomorphyChecksRow : OpenClaim := { program := "ytjgapmocogjkmaagreatdoor", sum := "c8c042405c4cd1ab7af10cd11bc99e6ef73c9fa1563b64b9653836f4d6bf6b4f", func := "schisma/schismalaw46.IsomorphyChecks", spec := "isomorphyChecks", unfollowed := true, recurses := true, named := ["internal/strconv.uint64pow10", "math/bits.deBruijn32tab", "math/bits.deBruijn64tab", "strconv.ErrSyntax", "strconv.ErrRange"], apart := false, laid := [("math/bits.deBruijn32tab", laid_math_bits_deBruijn32tab), ("math/bits.deBruijn64tab", laid_math_bits_deBruijn64tab), ("internal/strconv.uint64pow10", laid_internal_strconv_uint64pow10), ("strconv.ErrRange", laid_strconv_ErrRange), ("strconv.ErrSyntax", laid_strconv_ErrSyntax)] }
def IsomorphyChecksSaid : Prop := isomorphyChecksRow.holds Tryz.pinned (OpenSpec.ofChange isomorphyChecksSpec)

/-- ITS FALSE NEIGHBOUR: 'it returns false'. Refute it at one input. -/
def isomorphyChecksWrong : ChangeSpec := { name := "isomorphyChecks", fn := fun _ => fun
  | [d1, d2] => { results := [.lit (.bool false)], args := [d1, d2] }
  | _ => none }
def IsomorphyChecksWrongFalsely : Prop := isomorphyChecksRow.holds Tryz.pinned (OpenSpec.ofChange isomorphyChecksWrong)

/-- 'schismalaw46.IsomorphyForms': WHATEVER THE INPUT: true; the input reads as it did. -/
def isomorphyFormsSpec : ChangeSpec := { name := "isomorphyForms", fn := fun _ => fun
  | [d1, d2, d3] => { results := [.lit (.bool true)], args := [d1, d2, d3] }
  | _ => none }
def isomorphyFormsRow : OpenClaim := { program := "ytjgapmocogjkmaagreatdoor", sum := "c8c042405c4cd1ab7af10cd11bc99e6ef73c9fa1563b64b9653836f4d6bf6b4f", func := "schisma/schismalaw46.IsomorphyForms", spec := "isomorphyForms", unfollowed := true, recurses := true, named := ["internal/strconv.uint64pow10", "math/bits.deBruijn32tab", "math/bits.deBruijn64tab", "strconv.ErrSyntax", "strconv.ErrRange"], apart := false, laid := [("math/bits.deBruijn32tab", laid_math_bits_deBruijn32tab), ("math/bits.deBruijn64tab", laid_math_bits_deBruijn64tab), ("internal/strconv.uint64pow10", laid_internal_strconv_uint64pow10), ("strconv.ErrRange", laid_strconv_ErrRange), ("strconv.ErrSyntax", laid_strconv_ErrSyntax)] }
def IsomorphyFormsSaid : Prop := isomorphyFormsRow.holds Tryz.pinned (OpenSpec.ofChange isomorphyFormsSpec)

/-- ITS FALSE NEIGHBOUR: 'it returns false'. Refute it at one input. -/
def isomorphyFormsWrong : ChangeSpec := { name := "isomorphyForms", fn := fun _ => fun
  | [d1, d2, d3] => { results := [.lit (.bool false)], args := [d1, d2, d3] }
  | _ => none }
def IsomorphyFormsWrongFalsely : Prop := isomorphyFormsRow.holds Tryz.pinned (OpenSpec.ofChange isomorphyFormsWrong)

/-- 'schismalaw46.IsomorphyMoves': WHATEVER THE INPUT: true; the input reads as it did. -/
def isomorphyMovesSpec : ChangeSpec := { name := "isomorphyMoves", fn := fun _ => fun
  | [d1, d2, d3] => { results := [.lit (.bool true)], args := [d1, d2, d3] }
  | _ => none }
def isomorphyMovesRow : OpenClaim := { program := "ytjgapmocogjkmaagreatdoor", sum := "c8c042405c4cd1ab7af10cd11bc99e6ef73c9fa1563b64b9653836f4d6bf6b4f", func := "schisma/schismalaw46.IsomorphyMoves", spec := "isomorphyMoves", unfollowed := true, recurses := true, named := ["internal/strconv.uint64pow10", "math/bits.deBruijn32tab", "math/bits.deBruijn64tab", "strconv.ErrSyntax", "strconv.ErrRange"], apart := false, laid := [("math/bits.deBruijn32tab", laid_math_bits_deBruijn32tab), ("math/bits.deBruijn64tab", laid_math_bits_deBruijn64tab), ("internal/strconv.uint64pow10", laid_internal_strconv_uint64pow10), ("strconv.ErrRange", laid_strconv_ErrRange), ("strconv.ErrSyntax", laid_strconv_ErrSyntax)] }
def IsomorphyMovesSaid : Prop := isomorphyMovesRow.holds Tryz.pinned (OpenSpec.ofChange isomorphyMovesSpec)

/-- ITS FALSE NEIGHBOUR: 'it returns false'. Refute it at one input. -/
def isomorphyMovesWrong : ChangeSpec := { name := "isomorphyMoves", fn := fun _ => fun
  | [d1, d2, d3] => { results := [.lit (.bool false)], args := [d1, d2, d3] }
  | _ => none }
def IsomorphyMovesWrongFalsely : Prop := isomorphyMovesRow.holds Tryz.pinned (OpenSpec.ofChange isomorphyMovesWrong)

/-- 'schismalaw46.IsomorphyComposes': WHATEVER THE INPUT: true; the input reads as it did. -/
def isomorphyComposesSpec : ChangeSpec := { name := "isomorphyComposes", fn := fun _ => fun
  | [d1, d2, d3] => { results := [.lit (.bool true)], args := [d1, d2, d3] }
  | _ => none }
def isomorphyComposesRow : OpenClaim := { program := "ytjgapmocogjkmaagreatdoor", sum := "c8c042405c4cd1ab7af10cd11bc99e6ef73c9fa1563b64b9653836f4d6bf6b4f", func := "schisma/schismalaw46.IsomorphyComposes", spec := "isomorphyComposes", unfollowed := true, recurses := true, named := ["internal/strconv.uint64pow10", "math/bits.deBruijn32tab", "math/bits.deBruijn64tab", "strconv.ErrSyntax", "strconv.ErrRange"], apart := false, laid := [("math/bits.deBruijn32tab", laid_math_bits_deBruijn32tab), ("math/bits.deBruijn64tab", laid_math_bits_deBruijn64tab), ("internal/strconv.uint64pow10", laid_internal_strconv_uint64pow10), ("strconv.ErrRange", laid_strconv_ErrRange), ("strconv.ErrSyntax", laid_strconv_ErrSyntax)] }
def IsomorphyComposesSaid : Prop := isomorphyComposesRow.holds Tryz.pinned (OpenSpec.ofChange isomorphyComposesSpec)

/-- ITS FALSE NEIGHBOUR: 'it returns false'. Refute it at one input. -/
def isomorphyComposesWrong : ChangeSpec := { name := "isomorphyComposes", fn := fun _ => fun
  | [d1, d2, d3] => { results := [.lit (.bool false)], args := [d1, d2, d3] }
  | _ => none }
def IsomorphyComposesWrongFalsely : Prop := isomorphyComposesRow.holds Tryz.pinned (OpenSpec.ofChange isomorphyComposesWrong)

/-- 'schismalaw46.IsomorphyBoxes': WHATEVER THE INPUT: true; the input reads as it did. -/
def isomorphyBoxesSpec : ChangeSpec := { name := "isomorphyBoxes", fn := fun _ => fun
  | [d1, d2, d3] => { results := [.lit (.bool true)], args := [d1, d2, d3] }
  | _ => none }
def isomorphyBoxesRow : OpenClaim := { program := "ytjgapmocogjkmaagreatdoor", sum := "c8c042405c4cd1ab7af10cd11bc99e6ef73c9fa1563b64b9653836f4d6bf6b4f", func := "schisma/schismalaw46.IsomorphyBoxes", spec := "isomorphyBoxes", inPlace := ["internal/abi.NoEscape", "internal/bytealg.MakeNoZero"], unfollowed := true, recurses := true, named := ["internal/strconv.uint64pow10", "math/bits.deBruijn32tab", "math/bits.deBruijn64tab", "strconv.ErrSyntax", "strconv.ErrRange"], apart := false, laid := [("math/bits.deBruijn32tab", laid_math_bits_deBruijn32tab), ("math/bits.deBruijn64tab", laid_math_bits_deBruijn64tab), ("internal/strconv.uint64pow10", laid_internal_strconv_uint64pow10), ("strconv.ErrRange", laid_strconv_ErrRange), ("strconv.ErrSyntax", laid_strconv_ErrSyntax)] }
def IsomorphyBoxesSaid : Prop := isomorphyBoxesRow.holds Tryz.pinned (OpenSpec.ofChange isomorphyBoxesSpec)

/-- ITS FALSE NEIGHBOUR: 'it returns false'. Refute it at one input. -/
def isomorphyBoxesWrong : ChangeSpec := { name := "isomorphyBoxes", fn := fun _ => fun
  | [d1, d2, d3] => { results := [.lit (.bool false)], args := [d1, d2, d3] }
  | _ => none }
def IsomorphyBoxesWrongFalsely : Prop := isomorphyBoxesRow.holds Tryz.pinned (OpenSpec.ofChange isomorphyBoxesWrong)

/-- 'schismalaw46.IsomorphyLists': WHATEVER THE INPUT: true; the input reads as it did. -/
def isomorphyListsSpec : ChangeSpec := { name := "isomorphyLists", fn := fun _ => fun
  | [d1, d2, d3] => { results := [.lit (.bool true)], args := [d1, d2, d3] }
  | _ => none }
def isomorphyListsRow : OpenClaim := { program := "ytjgapmocogjkmaagreatdoor", sum := "c8c042405c4cd1ab7af10cd11bc99e6ef73c9fa1563b64b9653836f4d6bf6b4f", func := "schisma/schismalaw46.IsomorphyLists", spec := "isomorphyLists", inPlace := ["internal/abi.NoEscape", "internal/bytealg.MakeNoZero"], unfollowed := true, recurses := true, named := ["internal/strconv.uint64pow10", "math/bits.deBruijn32tab", "math/bits.deBruijn64tab", "strconv.ErrSyntax", "strconv.ErrRange"], apart := false, laid := [("math/bits.deBruijn32tab", laid_math_bits_deBruijn32tab), ("math/bits.deBruijn64tab", laid_math_bits_deBruijn64tab), ("internal/strconv.uint64pow10", laid_internal_strconv_uint64pow10), ("strconv.ErrRange", laid_strconv_ErrRange), ("strconv.ErrSyntax", laid_strconv_ErrSyntax)] }
def IsomorphyListsSaid : Prop := isomorphyListsRow.holds Tryz.pinned (OpenSpec.ofChange isomorphyListsSpec)

/-- ITS FALSE NEIGHBOUR: 'it returns false'. Refute it at one input. -/
def isomorphyListsWrong : ChangeSpec := { name := "isomorphyLists", fn := fun _ => fun
  | [d1, d2, d3] => { results := [.lit (.bool false)], args := [d1, d2, d3] }
  | _ => none }
def IsomorphyListsWrongFalsely : Prop := isomorphyListsRow.holds Tryz.pinned (OpenSpec.ofChange isomorphyListsWrong)

/- THE SECOND FORM. 'bulk': how many values and letters a reading holds, each counted each time it is reached (what is shared counts as often as it is met; a slice's spare places count too). A statement '..UptoSaid' is the law's where the arguments, and the package variables that the reading takes, are together of bulk at most 1048576: NARROWER than '..Said'. Prove '..Said' where nothing that the law and all that it calls make is longer than what came in: it says more and counts as full. Else prove '..UptoSaid'. A law counts once. -/
mutual
def uptoBulk {H : Type} : DataW H → Nat
  | .lit (.string bytes) => bytes.length + 1
  | .lit _ => 1
  | .nil => 1
  | .ptr d => uptoBulk d + 1
  | .slice elems spare => uptoBulkAll elems + uptoBulkAll spare + 1
  | .agg parts => uptoBulkAll parts + 1
  | .iface _ d => uptoBulk d + 1
  | .map entries => uptoBulkEntries entries + 1
  | .held _ => 1
def uptoBulkAll {H : Type} : List (DataW H) → Nat
  | [] => 0
  | d :: r => uptoBulk d + uptoBulkAll r
def uptoBulkEntries {H : Type} : List (Lit × DataW H) → Nat
  | [] => 0
  | x :: r => uptoBulkEntry x + uptoBulkEntries r
def uptoBulkEntry {H : Type} : Lit × DataW H → Nat
  | (.string bytes, d) => bytes.length + uptoBulk d + 1
  | (_, d) => uptoBulk d + 1
 end
def uptoSmall : (H : Type) → List (DataW H) → Bool := fun _ ds => decide (uptoBulkAll ds ≤ 1048576)
def OpenSpec.upto (s : _root_.Go.ChangeSpec) : _root_.Go.OpenSpec := { _root_.Go.OpenSpec.ofChange s with cond := some uptoSmall }

/-- 'schismalaw46.IsomorphyTurns', WHERE WHAT IT READS IS OF BULK AT MOST 1048576: true; the input reads as it did. -/
def isomorphyTurnsUptoRow : OpenClaim := { program := "ytjgapmocogjkmaagreatdoor", sum := "c8c042405c4cd1ab7af10cd11bc99e6ef73c9fa1563b64b9653836f4d6bf6b4f", func := "schisma/schismalaw46.IsomorphyTurns", spec := "isomorphyTurns", unfollowed := true, recurses := true, named := ["internal/strconv.uint64pow10", "math/bits.deBruijn32tab", "math/bits.deBruijn64tab", "strconv.ErrSyntax", "strconv.ErrRange"], apart := false, laid := [("math/bits.deBruijn32tab", laid_math_bits_deBruijn32tab), ("math/bits.deBruijn64tab", laid_math_bits_deBruijn64tab), ("internal/strconv.uint64pow10", laid_internal_strconv_uint64pow10), ("strconv.ErrRange", laid_strconv_ErrRange), ("strconv.ErrSyntax", laid_strconv_ErrSyntax)], narrowed := true }
def IsomorphyTurnsUptoSaid : Prop := isomorphyTurnsUptoRow.holds Tryz.pinned (OpenSpec.upto isomorphyTurnsSpec)

/-- 'schismalaw46.IsomorphyShifts', WHERE WHAT IT READS IS OF BULK AT MOST 1048576: true; the input reads as it did. -/
def isomorphyShiftsUptoRow : OpenClaim := { program := "ytjgapmocogjkmaagreatdoor", sum := "c8c042405c4cd1ab7af10cd11bc99e6ef73c9fa1563b64b9653836f4d6bf6b4f", func := "schisma/schismalaw46.IsomorphyShifts", spec := "isomorphyShifts", unfollowed := true, recurses := true, named := ["internal/strconv.uint64pow10", "math/bits.deBruijn32tab", "math/bits.deBruijn64tab", "strconv.ErrSyntax", "strconv.ErrRange"], apart := false, laid := [("math/bits.deBruijn32tab", laid_math_bits_deBruijn32tab), ("math/bits.deBruijn64tab", laid_math_bits_deBruijn64tab), ("internal/strconv.uint64pow10", laid_internal_strconv_uint64pow10), ("strconv.ErrRange", laid_strconv_ErrRange), ("strconv.ErrSyntax", laid_strconv_ErrSyntax)], narrowed := true }
def IsomorphyShiftsUptoSaid : Prop := isomorphyShiftsUptoRow.holds Tryz.pinned (OpenSpec.upto isomorphyShiftsSpec)

/-- 'schismalaw46.IsomorphySymmetries', WHERE WHAT IT READS IS OF BULK AT MOST 1048576: true; the input reads as it did. -/
def isomorphySymmetriesUptoRow : OpenClaim := { program := "ytjgapmocogjkmaagreatdoor", sum := "c8c042405c4cd1ab7af10cd11bc99e6ef73c9fa1563b64b9653836f4d6bf6b4f", func := "schisma/schismalaw46.IsomorphySymmetries", spec := "isomorphySymmetries", unfollowed := true, recurses := true, named := ["internal/strconv.uint64pow10", "math/bits.deBruijn32tab", "math/bits.deBruijn64tab", "strconv.ErrSyntax", "strconv.ErrRange"], apart := false, laid := [("math/bits.deBruijn32tab", laid_math_bits_deBruijn32tab), ("math/bits.deBruijn64tab", laid_math_bits_deBruijn64tab), ("internal/strconv.uint64pow10", laid_internal_strconv_uint64pow10), ("strconv.ErrRange", laid_strconv_ErrRange), ("strconv.ErrSyntax", laid_strconv_ErrSyntax)], narrowed := true }
def IsomorphySymmetriesUptoSaid : Prop := isomorphySymmetriesUptoRow.holds Tryz.pinned (OpenSpec.upto isomorphySymmetriesSpec)

/-- 'schismalaw46.IsomorphyChecks', WHERE WHAT IT READS IS OF BULK AT MOST 1048576: true; the input reads as it did. -/
def isomorphyChecksUptoRow : OpenClaim := { program := "ytjgapmocogjkmaagreatdoor", sum := "c8c042405c4cd1ab7af10cd11bc99e6ef73c9fa1563b64b9653836f4d6bf6b4f", func := "schisma/schismalaw46.IsomorphyChecks", spec := "isomorphyChecks", unfollowed := true, recurses := true, named := ["internal/strconv.uint64pow10", "math/bits.deBruijn32tab", "math/bits.deBruijn64tab", "strconv.ErrSyntax", "strconv.ErrRange"], apart := false, laid := [("math/bits.deBruijn32tab", laid_math_bits_deBruijn32tab), ("math/bits.deBruijn64tab", laid_math_bits_deBruijn64tab), ("internal/strconv.uint64pow10", laid_internal_strconv_uint64pow10), ("strconv.ErrRange", laid_strconv_ErrRange), ("strconv.ErrSyntax", laid_strconv_ErrSyntax)], narrowed := true }
def IsomorphyChecksUptoSaid : Prop := isomorphyChecksUptoRow.holds Tryz.pinned (OpenSpec.upto isomorphyChecksSpec)

/-- 'schismalaw46.IsomorphyForms', WHERE WHAT IT READS IS OF BULK AT MOST 1048576: true; the input reads as it did. -/
def isomorphyFormsUptoRow : OpenClaim := { program := "ytjgapmocogjkmaagreatdoor", sum := "c8c042405c4cd1ab7af10cd11bc99e6ef73c9fa1563b64b9653836f4d6bf6b4f", func := "schisma/schismalaw46.IsomorphyForms", spec := "isomorphyForms", unfollowed := true, recurses := true, named := ["internal/strconv.uint64pow10", "math/bits.deBruijn32tab", "math/bits.deBruijn64tab", "strconv.ErrSyntax", "strconv.ErrRange"], apart := false, laid := [("math/bits.deBruijn32tab", laid_math_bits_deBruijn32tab), ("math/bits.deBruijn64tab", laid_math_bits_deBruijn64tab), ("internal/strconv.uint64pow10", laid_internal_strconv_uint64pow10), ("strconv.ErrRange", laid_strconv_ErrRange), ("strconv.ErrSyntax", laid_strconv_ErrSyntax)], narrowed := true }
def IsomorphyFormsUptoSaid : Prop := isomorphyFormsUptoRow.holds Tryz.pinned (OpenSpec.upto isomorphyFormsSpec)

/-- 'schismalaw46.IsomorphyMoves', WHERE WHAT IT READS IS OF BULK AT MOST 1048576: true; the input reads as it did. -/
def isomorphyMovesUptoRow : OpenClaim := { program := "ytjgapmocogjkmaagreatdoor", sum := "c8c042405c4cd1ab7af10cd11bc99e6ef73c9fa1563b64b9653836f4d6bf6b4f", func := "schisma/schismalaw46.IsomorphyMoves", spec := "isomorphyMoves", unfollowed := true, recurses := true, named := ["internal/strconv.uint64pow10", "math/bits.deBruijn32tab", "math/bits.deBruijn64tab", "strconv.ErrSyntax", "strconv.ErrRange"], apart := false, laid := [("math/bits.deBruijn32tab", laid_math_bits_deBruijn32tab), ("math/bits.deBruijn64tab", laid_math_bits_deBruijn64tab), ("internal/strconv.uint64pow10", laid_internal_strconv_uint64pow10), ("strconv.ErrRange", laid_strconv_ErrRange), ("strconv.ErrSyntax", laid_strconv_ErrSyntax)], narrowed := true }
def IsomorphyMovesUptoSaid : Prop := isomorphyMovesUptoRow.holds Tryz.pinned (OpenSpec.upto isomorphyMovesSpec)

/-- 'schismalaw46.IsomorphyComposes', WHERE WHAT IT READS IS OF BULK AT MOST 1048576: true; the input reads as it did. -/
def isomorphyComposesUptoRow : OpenClaim := { program := "ytjgapmocogjkmaagreatdoor", sum := "c8c042405c4cd1ab7af10cd11bc99e6ef73c9fa1563b64b9653836f4d6bf6b4f", func := "schisma/schismalaw46.IsomorphyComposes", spec := "isomorphyComposes", unfollowed := true, recurses := true, named := ["internal/strconv.uint64pow10", "math/bits.deBruijn32tab", "math/bits.deBruijn64tab", "strconv.ErrSyntax", "strconv.ErrRange"], apart := false, laid := [("math/bits.deBruijn32tab", laid_math_bits_deBruijn32tab), ("math/bits.deBruijn64tab", laid_math_bits_deBruijn64tab), ("internal/strconv.uint64pow10", laid_internal_strconv_uint64pow10), ("strconv.ErrRange", laid_strconv_ErrRange), ("strconv.ErrSyntax", laid_strconv_ErrSyntax)], narrowed := true }
def IsomorphyComposesUptoSaid : Prop := isomorphyComposesUptoRow.holds Tryz.pinned (OpenSpec.upto isomorphyComposesSpec)

/-- 'schismalaw46.IsomorphyBoxes', WHERE WHAT IT READS IS OF BULK AT MOST 1048576: true; the input reads as it did. -/
def isomorphyBoxesUptoRow : OpenClaim := { program := "ytjgapmocogjkmaagreatdoor", sum := "c8c042405c4cd1ab7af10cd11bc99e6ef73c9fa1563b64b9653836f4d6bf6b4f", func := "schisma/schismalaw46.IsomorphyBoxes", spec := "isomorphyBoxes", inPlace := ["internal/abi.NoEscape", "internal/bytealg.MakeNoZero"], unfollowed := true, recurses := true, named := ["internal/strconv.uint64pow10", "math/bits.deBruijn32tab", "math/bits.deBruijn64tab", "strconv.ErrSyntax", "strconv.ErrRange"], apart := false, laid := [("math/bits.deBruijn32tab", laid_math_bits_deBruijn32tab), ("math/bits.deBruijn64tab", laid_math_bits_deBruijn64tab), ("internal/strconv.uint64pow10", laid_internal_strconv_uint64pow10), ("strconv.ErrRange", laid_strconv_ErrRange), ("strconv.ErrSyntax", laid_strconv_ErrSyntax)], narrowed := true }
def IsomorphyBoxesUptoSaid : Prop := isomorphyBoxesUptoRow.holds Tryz.pinned (OpenSpec.upto isomorphyBoxesSpec)

/-- 'schismalaw46.IsomorphyLists', WHERE WHAT IT READS IS OF BULK AT MOST 1048576: true; the input reads as it did. -/
def isomorphyListsUptoRow : OpenClaim := { program := "ytjgapmocogjkmaagreatdoor", sum := "c8c042405c4cd1ab7af10cd11bc99e6ef73c9fa1563b64b9653836f4d6bf6b4f", func := "schisma/schismalaw46.IsomorphyLists", spec := "isomorphyLists", inPlace := ["internal/abi.NoEscape", "internal/bytealg.MakeNoZero"], unfollowed := true, recurses := true, named := ["internal/strconv.uint64pow10", "math/bits.deBruijn32tab", "math/bits.deBruijn64tab", "strconv.ErrSyntax", "strconv.ErrRange"], apart := false, laid := [("math/bits.deBruijn32tab", laid_math_bits_deBruijn32tab), ("math/bits.deBruijn64tab", laid_math_bits_deBruijn64tab), ("internal/strconv.uint64pow10", laid_internal_strconv_uint64pow10), ("strconv.ErrRange", laid_strconv_ErrRange), ("strconv.ErrSyntax", laid_strconv_ErrSyntax)], narrowed := true }
def IsomorphyListsUptoSaid : Prop := isomorphyListsUptoRow.holds Tryz.pinned (OpenSpec.upto isomorphyListsSpec)

end Rows
end Go.Proofs.YtjgapmocogjkmaaGreatDoor
