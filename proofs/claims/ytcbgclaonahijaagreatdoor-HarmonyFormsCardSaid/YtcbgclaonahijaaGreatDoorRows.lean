/-
  NARROWER THAN 'FOR EVERY INPUT', by the rows' own cells (each row's printed sentence says how): HarmonyForms: laid · HarmonyIdentifies: laid · HarmonyClasses: laid · HarmonyPlaces: laid · HarmonyUses: laid · HarmonyWays: laid · HarmonyMirrors: laid · HarmonyChecks: laid · TopDualLattices: laid.
  DERIVED. THE GIVEN ROWS OF THIS SEAT. 9 by the template 'for every input the law returns true; each argument reads behind the call as it read before'; 0 by the template 'total and deterministic' (their statements: YtcbgclaonahijaaGreatDoorTotals.lean).
  GIVEN WITH THE SEED: the statements are not yours to turn. If you find one false, say at which input.
  Laid BY PROGRAM, IN A SANDBOX (cutbox-rows.mjs): the forced cells as the released guide's own fill.sh prints them over the translation c9f3359de620e30b… (all of the seat's roots in one cut). By AI agents, Wed Nov 11 2026. No macro, syntax, notation, axiom, sorry.
-/
import Derived.Test.YtcbgclaonahijaaGreatDoorChecked
import GoSem.Claim
import GoSem.ClaimJoined
import GoSem.ClaimMapViews
import Derived.JoinedTies
import Derived.KernelRfl
namespace Go.Proofs.YtcbgclaonahijaaGreatDoor
/- THE CELL 'sum', in the pinned program and in every row, IS THE sha256 OF THE DUMP (.gsa) THAT YtcbgclaonahijaaGreatDoorProg.lean LOADS. Nothing in Lean hashes anything: it is a label: what it is worth is what the hold of that sum in a sandbox is worth. -/
noncomputable def Tryz.pinned : Pinned := { name := "ytcbgclaonahijaagreatdoor", sum := "c9f3359de620e30b940708d2792fcb110249231056c7866baf02aa543f690341", checked := Tryz.checked }
namespace Rows
def none {H : Type} : Left H := { results := [], args := [] }

/- WHAT THE LISTED PACKAGE-LEVEL VARIABLES READ AS WHEN THE CALL BEGINS. Each datum BY PROGRAM (the guide's laid-datum.mjs) off the statement by which the dump's own 'gosem.cut.vars' lays the variable. In a bare row this is a premise. The card (YtcbgclaonahijaaGreatDoorCards.lean) ties it to the program's text. -/
def laid_math_bits_deBruijn32tab {H : Type} : DataW H := .agg [.lit (.int .u8 0), .lit (.int .u8 1), .lit (.int .u8 28), .lit (.int .u8 2), .lit (.int .u8 29), .lit (.int .u8 14), .lit (.int .u8 24), .lit (.int .u8 3), .lit (.int .u8 30), .lit (.int .u8 22), .lit (.int .u8 20), .lit (.int .u8 15), .lit (.int .u8 25), .lit (.int .u8 17), .lit (.int .u8 4), .lit (.int .u8 8), .lit (.int .u8 31), .lit (.int .u8 27), .lit (.int .u8 13), .lit (.int .u8 23), .lit (.int .u8 21), .lit (.int .u8 19), .lit (.int .u8 16), .lit (.int .u8 7), .lit (.int .u8 26), .lit (.int .u8 12), .lit (.int .u8 18), .lit (.int .u8 6), .lit (.int .u8 11), .lit (.int .u8 5), .lit (.int .u8 10), .lit (.int .u8 9)]
def laid_math_bits_deBruijn64tab {H : Type} : DataW H := .agg [.lit (.int .u8 0), .lit (.int .u8 1), .lit (.int .u8 56), .lit (.int .u8 2), .lit (.int .u8 57), .lit (.int .u8 49), .lit (.int .u8 28), .lit (.int .u8 3), .lit (.int .u8 61), .lit (.int .u8 58), .lit (.int .u8 42), .lit (.int .u8 50), .lit (.int .u8 38), .lit (.int .u8 29), .lit (.int .u8 17), .lit (.int .u8 4), .lit (.int .u8 62), .lit (.int .u8 47), .lit (.int .u8 59), .lit (.int .u8 36), .lit (.int .u8 45), .lit (.int .u8 43), .lit (.int .u8 51), .lit (.int .u8 22), .lit (.int .u8 53), .lit (.int .u8 39), .lit (.int .u8 33), .lit (.int .u8 30), .lit (.int .u8 24), .lit (.int .u8 18), .lit (.int .u8 12), .lit (.int .u8 5), .lit (.int .u8 63), .lit (.int .u8 55), .lit (.int .u8 48), .lit (.int .u8 27), .lit (.int .u8 60), .lit (.int .u8 41), .lit (.int .u8 37), .lit (.int .u8 16), .lit (.int .u8 46), .lit (.int .u8 35), .lit (.int .u8 44), .lit (.int .u8 21), .lit (.int .u8 52), .lit (.int .u8 32), .lit (.int .u8 23), .lit (.int .u8 11), .lit (.int .u8 54), .lit (.int .u8 26), .lit (.int .u8 40), .lit (.int .u8 15), .lit (.int .u8 34), .lit (.int .u8 20), .lit (.int .u8 31), .lit (.int .u8 10), .lit (.int .u8 25), .lit (.int .u8 14), .lit (.int .u8 19), .lit (.int .u8 9), .lit (.int .u8 13), .lit (.int .u8 8), .lit (.int .u8 7), .lit (.int .u8 6)]
def laid_internal_strconv_uint64pow10 {H : Type} : DataW H := .agg [.lit (.int .u64 1), .lit (.int .u64 10), .lit (.int .u64 100), .lit (.int .u64 1000), .lit (.int .u64 10000), .lit (.int .u64 100000), .lit (.int .u64 1000000), .lit (.int .u64 10000000), .lit (.int .u64 100000000), .lit (.int .u64 1000000000), .lit (.int .u64 10000000000), .lit (.int .u64 100000000000), .lit (.int .u64 1000000000000), .lit (.int .u64 10000000000000), .lit (.int .u64 100000000000000), .lit (.int .u64 1000000000000000), .lit (.int .u64 10000000000000000), .lit (.int .u64 100000000000000000), .lit (.int .u64 1000000000000000000), .lit (.int .u64 10000000000000000000)]
def laid_strconv_ErrRange {H : Type} : DataW H := .iface "*errors.errorString" (.ptr (.agg [.lit (.string [118, 97, 108, 117, 101, 32, 111, 117, 116, 32, 111, 102, 32, 114, 97, 110, 103, 101])]))
def laid_strconv_ErrSyntax {H : Type} : DataW H := .iface "*errors.errorString" (.ptr (.agg [.lit (.string [105, 110, 118, 97, 108, 105, 100, 32, 115, 121, 110, 116, 97, 120])]))

/-- 'schismalaw41.HarmonyForms': WHATEVER THE INPUT: true; the input reads as it did. -/
def harmonyFormsSpec : ChangeSpec := { name := "harmonyForms", fn := fun _ => fun
  | [d1, d2, d3] => { results := [.lit (.bool true)], args := [d1, d2, d3] }
  | _ => none }
def harmonyFormsRow : OpenClaim := { program := "ytcbgclaonahijaagreatdoor", sum := "c9f3359de620e30b940708d2792fcb110249231056c7866baf02aa543f690341", func := "schisma/schismalaw41.HarmonyForms", spec := "harmonyForms", inPlace := ["internal/abi.NoEscape", "internal/bytealg.MakeNoZero"], unfollowed := true, recurses := true, named := ["internal/strconv.uint64pow10", "math/bits.deBruijn32tab", "math/bits.deBruijn64tab", "strconv.ErrSyntax", "strconv.ErrRange"], apart := false, laid := [("math/bits.deBruijn32tab", laid_math_bits_deBruijn32tab), ("math/bits.deBruijn64tab", laid_math_bits_deBruijn64tab), ("internal/strconv.uint64pow10", laid_internal_strconv_uint64pow10), ("strconv.ErrRange", laid_strconv_ErrRange), ("strconv.ErrSyntax", laid_strconv_ErrSyntax)] }
def HarmonyFormsSaid : Prop := harmonyFormsRow.holds Tryz.pinned (OpenSpec.ofChange harmonyFormsSpec)

/-- ITS FALSE NEIGHBOUR: 'it returns false'. Refute it at one input. -/
def harmonyFormsWrong : ChangeSpec := { name := "harmonyForms", fn := fun _ => fun
  | [d1, d2, d3] => { results := [.lit (.bool false)], args := [d1, d2, d3] }
  | _ => none }
def HarmonyFormsWrongFalsely : Prop := harmonyFormsRow.holds Tryz.pinned (OpenSpec.ofChange harmonyFormsWrong)

/-- 'schismalaw41.HarmonyIdentifies': WHATEVER THE INPUT: true; the input reads as it did. -/
def harmonyIdentifiesSpec : ChangeSpec := { name := "harmonyIdentifies", fn := fun _ => fun
  | [d1, d2, d3] => { results := [.lit (.bool true)], args := [d1, d2, d3] }
  | _ => none }
def harmonyIdentifiesRow : OpenClaim := { program := "ytcbgclaonahijaagreatdoor", sum := "c9f3359de620e30b940708d2792fcb110249231056c7866baf02aa543f690341", func := "schisma/schismalaw41.HarmonyIdentifies", spec := "harmonyIdentifies", inPlace := ["internal/abi.NoEscape", "internal/bytealg.MakeNoZero"], unfollowed := true, recurses := true, named := ["internal/strconv.uint64pow10", "math/bits.deBruijn32tab", "math/bits.deBruijn64tab", "strconv.ErrSyntax", "strconv.ErrRange"], apart := false, laid := [("math/bits.deBruijn32tab", laid_math_bits_deBruijn32tab), ("math/bits.deBruijn64tab", laid_math_bits_deBruijn64tab), ("internal/strconv.uint64pow10", laid_internal_strconv_uint64pow10), ("strconv.ErrRange", laid_strconv_ErrRange), ("strconv.ErrSyntax", laid_strconv_ErrSyntax)] }
def HarmonyIdentifiesSaid : Prop := harmonyIdentifiesRow.holds Tryz.pinned (OpenSpec.ofChange harmonyIdentifiesSpec)

/-- ITS FALSE NEIGHBOUR: 'it returns false'. Refute it at one input. -/
def harmonyIdentifiesWrong : ChangeSpec := { name := "harmonyIdentifies", fn := fun _ => fun
  | [d1, d2, d3] => { results := [.lit (.bool false)], args := [d1, d2, d3] }
  | _ => none }
def HarmonyIdentifiesWrongFalsely : Prop := harmonyIdentifiesRow.holds Tryz.pinned (OpenSpec.ofChange harmonyIdentifiesWrong)

/-- 'schismalaw41.HarmonyClasses': WHATEVER THE INPUT: true; the input reads as it did. -/
def harmonyClassesSpec : ChangeSpec := { name := "harmonyClasses", fn := fun _ => fun
  | [d1, d2, d3] => { results := [.lit (.bool true)], args := [d1, d2, d3] }
  | _ => none }
def harmonyClassesRow : OpenClaim := { program := "ytcbgclaonahijaagreatdoor", sum := "c9f3359de620e30b940708d2792fcb110249231056c7866baf02aa543f690341", func := "schisma/schismalaw41.HarmonyClasses", spec := "harmonyClasses", inPlace := ["internal/abi.NoEscape", "internal/bytealg.MakeNoZero"], unfollowed := true, recurses := true, named := ["internal/strconv.uint64pow10", "math/bits.deBruijn32tab", "math/bits.deBruijn64tab", "strconv.ErrSyntax", "strconv.ErrRange"], apart := false, laid := [("math/bits.deBruijn32tab", laid_math_bits_deBruijn32tab), ("math/bits.deBruijn64tab", laid_math_bits_deBruijn64tab), ("internal/strconv.uint64pow10", laid_internal_strconv_uint64pow10), ("strconv.ErrRange", laid_strconv_ErrRange), ("strconv.ErrSyntax", laid_strconv_ErrSyntax)] }
def HarmonyClassesSaid : Prop := harmonyClassesRow.holds Tryz.pinned (OpenSpec.ofChange harmonyClassesSpec)

/-- ITS FALSE NEIGHBOUR: 'it returns false'. Refute it at one input. -/
def harmonyClassesWrong : ChangeSpec := { name := "harmonyClasses", fn := fun _ => fun
  | [d1, d2, d3] => { results := [.lit (.bool false)], args := [d1, d2, d3] }
  | _ => none }
def HarmonyClassesWrongFalsely : Prop := harmonyClassesRow.holds Tryz.pinned (OpenSpec.ofChange harmonyClassesWrong)

/-- 'schismalaw41.HarmonyPlaces': WHATEVER THE INPUT: true; the input reads as it did. -/
def harmonyPlacesSpec : ChangeSpec := { name := "harmonyPlaces", fn := fun _ => fun
  | [d1, d2, d3] => { results := [.lit (.bool true)], args := [d1, d2, d3] }
  | _ => none }
def harmonyPlacesRow : OpenClaim := { program := "ytcbgclaonahijaagreatdoor", sum := "c9f3359de620e30b940708d2792fcb110249231056c7866baf02aa543f690341", func := "schisma/schismalaw41.HarmonyPlaces", spec := "harmonyPlaces", inPlace := ["internal/abi.NoEscape", "internal/bytealg.MakeNoZero"], unfollowed := true, recurses := true, named := ["internal/strconv.uint64pow10", "math/bits.deBruijn32tab", "math/bits.deBruijn64tab", "strconv.ErrSyntax", "strconv.ErrRange"], apart := false, laid := [("math/bits.deBruijn32tab", laid_math_bits_deBruijn32tab), ("math/bits.deBruijn64tab", laid_math_bits_deBruijn64tab), ("internal/strconv.uint64pow10", laid_internal_strconv_uint64pow10), ("strconv.ErrRange", laid_strconv_ErrRange), ("strconv.ErrSyntax", laid_strconv_ErrSyntax)] }
def HarmonyPlacesSaid : Prop := harmonyPlacesRow.holds Tryz.pinned (OpenSpec.ofChange harmonyPlacesSpec)

/-- ITS FALSE NEIGHBOUR: 'it returns false'. Refute it at one input. -/
def harmonyPlacesWrong : ChangeSpec := { name := "harmonyPlaces", fn := fun _ => fun
  | [d1, d2, d3] => { results := [.lit (.bool false)], args := [d1, d2, d3] }
  | _ => none }
def HarmonyPlacesWrongFalsely : Prop := harmonyPlacesRow.holds Tryz.pinned (OpenSpec.ofChange harmonyPlacesWrong)

/-- 'schismalaw41.HarmonyUses': WHATEVER THE INPUT: true; the input reads as it did. -/
def harmonyUsesSpec : ChangeSpec := { name := "harmonyUses", fn := fun _ => fun
  | [d1, d2, d3] => { results := [.lit (.bool true)], args := [d1, d2, d3] }
  | _ => none }
def harmonyUsesRow : OpenClaim := { program := "ytcbgclaonahijaagreatdoor", sum := "c9f3359de620e30b940708d2792fcb110249231056c7866baf02aa543f690341", func := "schisma/schismalaw41.HarmonyUses", spec := "harmonyUses", inPlace := ["internal/abi.NoEscape", "internal/bytealg.MakeNoZero"], unfollowed := true, recurses := true, named := ["internal/strconv.uint64pow10", "math/bits.deBruijn32tab", "math/bits.deBruijn64tab", "strconv.ErrSyntax", "strconv.ErrRange"], apart := false, laid := [("math/bits.deBruijn32tab", laid_math_bits_deBruijn32tab), ("math/bits.deBruijn64tab", laid_math_bits_deBruijn64tab), ("internal/strconv.uint64pow10", laid_internal_strconv_uint64pow10), ("strconv.ErrRange", laid_strconv_ErrRange), ("strconv.ErrSyntax", laid_strconv_ErrSyntax)] }
def HarmonyUsesSaid : Prop := harmonyUsesRow.holds Tryz.pinned (OpenSpec.ofChange harmonyUsesSpec)

/-- ITS FALSE NEIGHBOUR: 'it returns false'. Refute it at one input. -/
def harmonyUsesWrong : ChangeSpec := { name := "harmonyUses", fn := fun _ => fun
  | [d1, d2, d3] => { results := [.lit (.bool false)], args := [d1, d2, d3] }
  | _ => none }
def HarmonyUsesWrongFalsely : Prop := harmonyUsesRow.holds Tryz.pinned (OpenSpec.ofChange harmonyUsesWrong)

/-- 'schismalaw41.HarmonyWays': WHATEVER THE INPUT: true; the input reads as it did. -/
def harmonyWaysSpec : ChangeSpec := { name := "harmonyWays", fn := fun _ => fun
  | [d1, d2, d3] => { results := [.lit (.bool true)], args := [d1, d2, d3] }
  | _ => none }
def harmonyWaysRow : OpenClaim := { program := "ytcbgclaonahijaagreatdoor", sum := "c9f3359de620e30b940708d2792fcb110249231056c7866baf02aa543f690341", func := "schisma/schismalaw41.HarmonyWays", spec := "harmonyWays", inPlace := ["internal/abi.NoEscape", "internal/bytealg.MakeNoZero"], unfollowed := true, recurses := true, named := ["internal/strconv.uint64pow10", "math/bits.deBruijn32tab", "math/bits.deBruijn64tab", "strconv.ErrSyntax", "strconv.ErrRange"], apart := false, laid := [("math/bits.deBruijn32tab", laid_math_bits_deBruijn32tab), ("math/bits.deBruijn64tab", laid_math_bits_deBruijn64tab), ("internal/strconv.uint64pow10", laid_internal_strconv_uint64pow10), ("strconv.ErrRange", laid_strconv_ErrRange), ("strconv.ErrSyntax", laid_strconv_ErrSyntax)] }
def HarmonyWaysSaid : Prop := harmonyWaysRow.holds Tryz.pinned (OpenSpec.ofChange harmonyWaysSpec)

/-- ITS FALSE NEIGHBOUR: 'it returns false'. Refute it at one input. -/
def harmonyWaysWrong : ChangeSpec := { name := "harmonyWays", fn := fun _ => fun
  | [d1, d2, d3] => { results := [.lit (.bool false)], args := [d1, d2, d3] }
  | _ => none }
def HarmonyWaysWrongFalsely : Prop := harmonyWaysRow.holds Tryz.pinned (OpenSpec.ofChange harmonyWaysWrong)

/-- 'schismalaw41.HarmonyMirrors': WHATEVER THE INPUT: true; the input reads as it did. -/
def harmonyMirrorsSpec : ChangeSpec := { name := "harmonyMirrors", fn := fun _ => fun
  | [d1, d2, d3] => { results := [.lit (.bool true)], args := [d1, d2, d3] }
  | _ => none }
def harmonyMirrorsRow : OpenClaim := { program := "ytcbgclaonahijaagreatdoor", sum := "c9f3359de620e30b940708d2792fcb110249231056c7866baf02aa543f690341", func := "schisma/schismalaw41.HarmonyMirrors", spec := "harmonyMirrors", inPlace := ["internal/abi.NoEscape", "internal/bytealg.MakeNoZero"], unfollowed := true, recurses := true, named := ["internal/strconv.uint64pow10", "math/bits.deBruijn32tab", "math/bits.deBruijn64tab", "strconv.ErrSyntax", "strconv.ErrRange"], apart := false, laid := [("math/bits.deBruijn32tab", laid_math_bits_deBruijn32tab), ("math/bits.deBruijn64tab", laid_math_bits_deBruijn64tab), ("internal/strconv.uint64pow10", laid_internal_strconv_uint64pow10), ("strconv.ErrRange", laid_strconv_ErrRange), ("strconv.ErrSyntax", laid_strconv_ErrSyntax)] }
def HarmonyMirrorsSaid : Prop := harmonyMirrorsRow.holds Tryz.pinned (OpenSpec.ofChange harmonyMirrorsSpec)

/-- ITS FALSE NEIGHBOUR: 'it returns false'. Refute it at one input. -/
def harmonyMirrorsWrong : ChangeSpec := { name := "harmonyMirrors", fn := fun _ => fun
  | [d1, d2, d3] => { results := [.lit (.bool false)], args := [d1, d2, d3] }
  | _ => none }
def HarmonyMirrorsWrongFalsely : Prop := harmonyMirrorsRow.holds Tryz.pinned (OpenSpec.ofChange harmonyMirrorsWrong)

/-- 'schismalaw41.HarmonyChecks': WHATEVER THE INPUT: true; the input reads as it did. -/
def harmonyChecksSpec : ChangeSpec := { name := "harmonyChecks", fn := fun _ => fun
  | [d1, d2] => { results := [.lit (.bool true)], args := [d1, d2] }
  | _ => none }
def harmonyChecksRow : OpenClaim := { program := "ytcbgclaonahijaagreatdoor", sum := "c9f3359de620e30b940708d2792fcb110249231056c7866baf02aa543f690341", func := "schisma/schismalaw41.HarmonyChecks", spec := "harmonyChecks", inPlace := ["internal/abi.NoEscape", "internal/bytealg.MakeNoZero"], unfollowed := true, recurses := true, named := ["internal/strconv.uint64pow10", "math/bits.deBruijn32tab", "math/bits.deBruijn64tab", "strconv.ErrSyntax", "strconv.ErrRange"], apart := false, laid := [("math/bits.deBruijn32tab", laid_math_bits_deBruijn32tab), ("math/bits.deBruijn64tab", laid_math_bits_deBruijn64tab), ("internal/strconv.uint64pow10", laid_internal_strconv_uint64pow10), ("strconv.ErrRange", laid_strconv_ErrRange), ("strconv.ErrSyntax", laid_strconv_ErrSyntax)] }
def HarmonyChecksSaid : Prop := harmonyChecksRow.holds Tryz.pinned (OpenSpec.ofChange harmonyChecksSpec)

/-- ITS FALSE NEIGHBOUR: 'it returns false'. Refute it at one input. -/
def harmonyChecksWrong : ChangeSpec := { name := "harmonyChecks", fn := fun _ => fun
  | [d1, d2] => { results := [.lit (.bool false)], args := [d1, d2] }
  | _ => none }
def HarmonyChecksWrongFalsely : Prop := harmonyChecksRow.holds Tryz.pinned (OpenSpec.ofChange harmonyChecksWrong)

/-- 'schismatop.TopDualLattices': WHATEVER THE INPUT: true; the input reads as it did. -/
def topDualLatticesSpec : ChangeSpec := { name := "topDualLattices", fn := fun _ => fun
  | [d1, d2, d3] => { results := [.lit (.bool true)], args := [d1, d2, d3] }
  | _ => none }
def topDualLatticesRow : OpenClaim := { program := "ytcbgclaonahijaagreatdoor", sum := "c9f3359de620e30b940708d2792fcb110249231056c7866baf02aa543f690341", func := "schisma/schismatop.TopDualLattices", spec := "topDualLattices", inPlace := ["internal/abi.NoEscape", "internal/bytealg.MakeNoZero"], unfollowed := true, recurses := true, named := ["internal/strconv.uint64pow10", "math/bits.deBruijn32tab", "math/bits.deBruijn64tab", "strconv.ErrSyntax", "strconv.ErrRange"], apart := false, laid := [("math/bits.deBruijn32tab", laid_math_bits_deBruijn32tab), ("math/bits.deBruijn64tab", laid_math_bits_deBruijn64tab), ("internal/strconv.uint64pow10", laid_internal_strconv_uint64pow10), ("strconv.ErrRange", laid_strconv_ErrRange), ("strconv.ErrSyntax", laid_strconv_ErrSyntax)] }
def TopDualLatticesSaid : Prop := topDualLatticesRow.holds Tryz.pinned (OpenSpec.ofChange topDualLatticesSpec)

/-- ITS FALSE NEIGHBOUR: 'it returns false'. Refute it at one input. -/
def topDualLatticesWrong : ChangeSpec := { name := "topDualLattices", fn := fun _ => fun
  | [d1, d2, d3] => { results := [.lit (.bool false)], args := [d1, d2, d3] }
  | _ => none }
def TopDualLatticesWrongFalsely : Prop := topDualLatticesRow.holds Tryz.pinned (OpenSpec.ofChange topDualLatticesWrong)

/- THE SECOND FORM. 'bulk': how many values and letters a reading holds, each counted each time it is reached (what is shared counts as often as it is met; a slice's spare places count too). A statement '..UptoSaid' is the law's where the arguments, and the package variables that the reading takes, are together of bulk at most 1048576: NARROWER than '..Said'. Prove '..Said' where nothing that the law and all that it calls make is longer than what came in: it says more and counts as full. Else prove '..UptoSaid'. A law counts once. -/
mutual
def uptoBulk {H : Type} : DataW H → Nat
  | .lit (.string bytes) => bytes.length + 1
  | .lit _ => 1
  | .nil => 1
  | .ptr d => uptoBulk d + 1
  | .slice elems spare => uptoBulkAll elems + uptoBulkAll spare + 1
  | .agg parts => uptoBulkAll parts + 1
  | .iface _ d => uptoBulk d + 1
  | .map entries => uptoBulkEntries entries + 1
  | .held _ => 1
def uptoBulkAll {H : Type} : List (DataW H) → Nat
  | [] => 0
  | d :: r => uptoBulk d + uptoBulkAll r
def uptoBulkEntries {H : Type} : List (Lit × DataW H) → Nat
  | [] => 0
  | x :: r => uptoBulkEntry x + uptoBulkEntries r
def uptoBulkEntry {H : Type} : Lit × DataW H → Nat
  | (.string bytes, d) => bytes.length + uptoBulk d + 1
  | (_, d) => uptoBulk d + 1
 end
def uptoSmall : (H : Type) → List (DataW H) → Bool := fun _ ds => decide (uptoBulkAll ds ≤ 1048576)
def OpenSpec.upto (s : _root_.Go.ChangeSpec) : _root_.Go.OpenSpec := { _root_.Go.OpenSpec.ofChange s with cond := some uptoSmall }

/-- 'schismalaw41.HarmonyForms', WHERE WHAT IT READS IS OF BULK AT MOST 1048576: true; the input reads as it did. -/
def harmonyFormsUptoRow : OpenClaim := { program := "ytcbgclaonahijaagreatdoor", sum := "c9f3359de620e30b940708d2792fcb110249231056c7866baf02aa543f690341", func := "schisma/schismalaw41.HarmonyForms", spec := "harmonyForms", inPlace := ["internal/abi.NoEscape", "internal/bytealg.MakeNoZero"], unfollowed := true, recurses := true, named := ["internal/strconv.uint64pow10", "math/bits.deBruijn32tab", "math/bits.deBruijn64tab", "strconv.ErrSyntax", "strconv.ErrRange"], apart := false, laid := [("math/bits.deBruijn32tab", laid_math_bits_deBruijn32tab), ("math/bits.deBruijn64tab", laid_math_bits_deBruijn64tab), ("internal/strconv.uint64pow10", laid_internal_strconv_uint64pow10), ("strconv.ErrRange", laid_strconv_ErrRange), ("strconv.ErrSyntax", laid_strconv_ErrSyntax)], narrowed := true }
def HarmonyFormsUptoSaid : Prop := harmonyFormsUptoRow.holds Tryz.pinned (OpenSpec.upto harmonyFormsSpec)

/-- 'schismalaw41.HarmonyIdentifies', WHERE WHAT IT READS IS OF BULK AT MOST 1048576: true; the input reads as it did. -/
def harmonyIdentifiesUptoRow : OpenClaim := { program := "ytcbgclaonahijaagreatdoor", sum := "c9f3359de620e30b940708d2792fcb110249231056c7866baf02aa543f690341", func := "schisma/schismalaw41.HarmonyIdentifies", spec := "harmonyIdentifies", inPlace := ["internal/abi.NoEscape", "internal/bytealg.MakeNoZero"], unfollowed := true, recurses := true, named := ["internal/strconv.uint64pow10", "math/bits.deBruijn32tab", "math/bits.deBruijn64tab", "strconv.ErrSyntax", "strconv.ErrRange"], apart := false, laid := [("math/bits.deBruijn32tab", laid_math_bits_deBruijn32tab), ("math/bits.deBruijn64tab", laid_math_bits_deBruijn64tab), ("internal/strconv.uint64pow10", laid_internal_strconv_uint64pow10), ("strconv.ErrRange", laid_strconv_ErrRange), ("strconv.ErrSyntax", laid_strconv_ErrSyntax)], narrowed := true }
def HarmonyIdentifiesUptoSaid : Prop := harmonyIdentifiesUptoRow.holds Tryz.pinned (OpenSpec.upto harmonyIdentifiesSpec)

/-- 'schismalaw41.HarmonyClasses', WHERE WHAT IT READS IS OF BULK AT MOST 1048576: true; the input reads as it did. -/
def harmonyClassesUptoRow : OpenClaim := { program := "ytcbgclaonahijaagreatdoor", sum := "c9f3359de620e30b940708d2792fcb110249231056c7866baf02aa543f690341", func := "schisma/schismalaw41.HarmonyClasses", spec := "harmonyClasses", inPlace := ["internal/abi.NoEscape", "internal/bytealg.MakeNoZero"], unfollowed := true, recurses := true, named := ["internal/strconv.uint64pow10", "math/bits.deBruijn32tab", "math/bits.deBruijn64tab", "strconv.ErrSyntax", "strconv.ErrRange"], apart := false, laid := [("math/bits.deBruijn32tab", laid_math_bits_deBruijn32tab), ("math/bits.deBruijn64tab", laid_math_bits_deBruijn64tab), ("internal/strconv.uint64pow10", laid_internal_strconv_uint64pow10), ("strconv.ErrRange", laid_strconv_ErrRange), ("strconv.ErrSyntax", laid_strconv_ErrSyntax)], narrowed := true }
def HarmonyClassesUptoSaid : Prop := harmonyClassesUptoRow.holds Tryz.pinned (OpenSpec.upto harmonyClassesSpec)

/-- 'schismalaw41.HarmonyPlaces', WHERE WHAT IT READS IS OF BULK AT MOST 1048576: true; the input reads as it did. -/
def harmonyPlacesUptoRow : OpenClaim := { program := "ytcbgclaonahijaagreatdoor", sum := "c9f3359de620e30b940708d2792fcb110249231056c7866baf02aa543f690341", func := "schisma/schismalaw41.HarmonyPlaces", spec := "harmonyPlaces", inPlace := ["internal/abi.NoEscape", "internal/bytealg.MakeNoZero"], unfollowed := true, recurses := true, named := ["internal/strconv.uint64pow10", "math/bits.deBruijn32tab", "math/bits.deBruijn64tab", "strconv.ErrSyntax", "strconv.ErrRange"], apart := false, laid := [("math/bits.deBruijn32tab", laid_math_bits_deBruijn32tab), ("math/bits.deBruijn64tab", laid_math_bits_deBruijn64tab), ("internal/strconv.uint64pow10", laid_internal_strconv_uint64pow10), ("strconv.ErrRange", laid_strconv_ErrRange), ("strconv.ErrSyntax", laid_strconv_ErrSyntax)], narrowed := true }
def HarmonyPlacesUptoSaid : Prop := harmonyPlacesUptoRow.holds Tryz.pinned (OpenSpec.upto harmonyPlacesSpec)

/-- 'schismalaw41.HarmonyUses', WHERE WHAT IT READS IS OF BULK AT MOST 1048576: true; the input reads as it did. -/
def harmonyUsesUptoRow : OpenClaim := { program := "ytcbgclaonahijaagreatdoor", sum := "c9f3359de620e30b940708d2792fcb110249231056c7866baf02aa543f690341", func := "schisma/schismalaw41.HarmonyUses", spec := "harmonyUses", inPlace := ["internal/abi.NoEscape", "internal/bytealg.MakeNoZero"], unfollowed := true, recurses := true, named := ["internal/strconv.uint64pow10", "math/bits.deBruijn32tab", "math/bits.deBruijn64tab", "strconv.ErrSyntax", "strconv.ErrRange"], apart := false, laid := [("math/bits.deBruijn32tab", laid_math_bits_deBruijn32tab), ("math/bits.deBruijn64tab", laid_math_bits_deBruijn64tab), ("internal/strconv.uint64pow10", laid_internal_strconv_uint64pow10), ("strconv.ErrRange", laid_strconv_ErrRange), ("strconv.ErrSyntax", laid_strconv_ErrSyntax)], narrowed := true }
def HarmonyUsesUptoSaid : Prop := harmonyUsesUptoRow.holds Tryz.pinned (OpenSpec.upto harmonyUsesSpec)

/-- 'schismalaw41.HarmonyWays', WHERE WHAT IT READS IS OF BULK AT MOST 1048576: true; the input reads as it did. -/
def harmonyWaysUptoRow : OpenClaim := { program := "ytcbgclaonahijaagreatdoor", sum := "c9f3359de620e30b940708d2792fcb110249231056c7866baf02aa543f690341", func := "schisma/schismalaw41.HarmonyWays", spec := "harmonyWays", inPlace := ["internal/abi.NoEscape", "internal/bytealg.MakeNoZero"], unfollowed := true, recurses := true, named := ["internal/strconv.uint64pow10", "math/bits.deBruijn32tab", "math/bits.deBruijn64tab", "strconv.ErrSyntax", "strconv.ErrRange"], apart := false, laid := [("math/bits.deBruijn32tab", laid_math_bits_deBruijn32tab), ("math/bits.deBruijn64tab", laid_math_bits_deBruijn64tab), ("internal/strconv.uint64pow10", laid_internal_strconv_uint64pow10), ("strconv.ErrRange", laid_strconv_ErrRange), ("strconv.ErrSyntax", laid_strconv_ErrSyntax)], narrowed := true }
def HarmonyWaysUptoSaid : Prop := harmonyWaysUptoRow.holds Tryz.pinned (OpenSpec.upto harmonyWaysSpec)

/-- 'schismalaw41.HarmonyMirrors', WHERE WHAT IT READS IS OF BULK AT MOST 1048576: true; the input reads as it did. -/
def harmonyMirrorsUptoRow : OpenClaim := { program := "ytcbgclaonahijaagreatdoor", sum := "c9f3359de620e30b940708d2792fcb110249231056c7866baf02aa543f690341", func := "schisma/schismalaw41.HarmonyMirrors", spec := "harmonyMirrors", inPlace := ["internal/abi.NoEscape", "internal/bytealg.MakeNoZero"], unfollowed := true, recurses := true, named := ["internal/strconv.uint64pow10", "math/bits.deBruijn32tab", "math/bits.deBruijn64tab", "strconv.ErrSyntax", "strconv.ErrRange"], apart := false, laid := [("math/bits.deBruijn32tab", laid_math_bits_deBruijn32tab), ("math/bits.deBruijn64tab", laid_math_bits_deBruijn64tab), ("internal/strconv.uint64pow10", laid_internal_strconv_uint64pow10), ("strconv.ErrRange", laid_strconv_ErrRange), ("strconv.ErrSyntax", laid_strconv_ErrSyntax)], narrowed := true }
def HarmonyMirrorsUptoSaid : Prop := harmonyMirrorsUptoRow.holds Tryz.pinned (OpenSpec.upto harmonyMirrorsSpec)

/-- 'schismalaw41.HarmonyChecks', WHERE WHAT IT READS IS OF BULK AT MOST 1048576: true; the input reads as it did. -/
def harmonyChecksUptoRow : OpenClaim := { program := "ytcbgclaonahijaagreatdoor", sum := "c9f3359de620e30b940708d2792fcb110249231056c7866baf02aa543f690341", func := "schisma/schismalaw41.HarmonyChecks", spec := "harmonyChecks", inPlace := ["internal/abi.NoEscape", "internal/bytealg.MakeNoZero"], unfollowed := true, recurses := true, named := ["internal/strconv.uint64pow10", "math/bits.deBruijn32tab", "math/bits.deBruijn64tab", "strconv.ErrSyntax", "strconv.ErrRange"], apart := false, laid := [("math/bits.deBruijn32tab", laid_math_bits_deBruijn32tab), ("math/bits.deBruijn64tab", laid_math_bits_deBruijn64tab), ("internal/strconv.uint64pow10", laid_internal_strconv_uint64pow10), ("strconv.ErrRange", laid_strconv_ErrRange), ("strconv.ErrSyntax", laid_strconv_ErrSyntax)], narrowed := true }
def HarmonyChecksUptoSaid : Prop := harmonyChecksUptoRow.holds Tryz.pinned (OpenSpec.upto harmonyChecksSpec)

/-- 'schismatop.TopDualLattices', WHERE WHAT IT READS IS OF BULK AT MOST 1048576: true; the input reads as it did. -/
def topDualLatticesUptoRow : OpenClaim := { program := "ytcbgclaonahijaagreatdoor", sum := "c9f3359de620e30b940708d2792fcb110249231056c7866baf02aa543f690341", func := "schisma/schismatop.TopDualLattices", spec := "topDualLattices", inPlace := ["internal/abi.NoEscape", "internal/bytealg.MakeNoZero"], unfollowed := true, recurses := true, named := ["internal/strconv.uint64pow10", "math/bits.deBruijn32tab", "math/bits.deBruijn64tab", "strconv.ErrSyntax", "strconv.ErrRange"], apart := false, laid := [("math/bits.deBruijn32tab", laid_math_bits_deBruijn32tab), ("math/bits.deBruijn64tab", laid_math_bits_deBruijn64tab), ("internal/strconv.uint64pow10", laid_internal_strconv_uint64pow10), ("strconv.ErrRange", laid_strconv_ErrRange), ("strconv.ErrSyntax", laid_strconv_ErrSyntax)], narrowed := true }
def TopDualLatticesUptoSaid : Prop := topDualLatticesUptoRow.holds Tryz.pinned (OpenSpec.upto topDualLatticesSpec)

end Rows
end Go.Proofs.YtcbgclaonahijaaGreatDoor
