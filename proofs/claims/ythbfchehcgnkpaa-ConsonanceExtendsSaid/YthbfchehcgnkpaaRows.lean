/-
  No cell of these rows narrows 'for every input' (looked for: loops, veiled, ifaces, maps, wideKeys, modest, calm, conditions, laid).
  DERIVED. THE GIVEN ROWS OF THIS SEAT. 7 by the template 'for every input the law returns true; each argument reads behind the call as it read before'; 0 by the template 'total and deterministic' (their statements: YthbfchehcgnkpaaTotals.lean).
  GIVEN WITH THE SEED: the statements are not yours to turn. If you find one false, say at which input.
  Laid BY PROGRAM, IN A SANDBOX (cutbox-rows.mjs): the forced cells as the released guide's own fill.sh prints them over the translation 06445e2975005add… (all of the seat's roots in one cut). By AI agents, Wed Nov 11 2026. No macro, syntax, notation, axiom, sorry.
-/
import Derived.Test.YthbfchehcgnkpaaChecked
import GoSem.Claim
import GoSem.ClaimJoined
import GoSem.ClaimMapViews
import Derived.JoinedTies
import Derived.KernelRfl
namespace Go.Proofs.Ythbfchehcgnkpaa
/- THE CELL 'sum', in the pinned program and in every row, IS THE sha256 OF THE DUMP (.gsa) THAT YthbfchehcgnkpaaProg.lean LOADS. Nothing in Lean hashes anything: it is a label: what it is worth is what the hold of that sum in a sandbox is worth. -/
noncomputable def Try.pinned : Pinned := { name := "ythbfchehcgnkpaa", sum := "06445e2975005addd1b43a4a1544ec9e97ef64d8b122aa95bbf5891f9a746023", checked := Try.checked }
namespace Rows
def none {H : Type} : Left H := { results := [], args := [] }

/-- 'schismalaw40.ConsonanceCloses': WHATEVER THE INPUT: true; the input reads as it did. -/
def consonanceClosesSpec : ChangeSpec := { name := "consonanceCloses", fn := fun _ => fun
  | [d1, d2] => { results := [.lit (.bool true)], args := [d1, d2] }
  | _ => none }
def consonanceClosesRow : OpenClaim := { program := "ythbfchehcgnkpaa", sum := "06445e2975005addd1b43a4a1544ec9e97ef64d8b122aa95bbf5891f9a746023", func := "schisma/schismalaw40.ConsonanceCloses", spec := "consonanceCloses", unfollowed := true, recurses := true, apart := false }
def ConsonanceClosesSaid : Prop := consonanceClosesRow.holds Try.pinned (OpenSpec.ofChange consonanceClosesSpec)

/-- ITS FALSE NEIGHBOUR: 'it returns false'. Refute it at one input. -/
def consonanceClosesWrong : ChangeSpec := { name := "consonanceCloses", fn := fun _ => fun
  | [d1, d2] => { results := [.lit (.bool false)], args := [d1, d2] }
  | _ => none }
def ConsonanceClosesWrongFalsely : Prop := consonanceClosesRow.holds Try.pinned (OpenSpec.ofChange consonanceClosesWrong)

/-- 'schismalaw40.ConsonanceLists': WHATEVER THE INPUT: true; the input reads as it did. -/
def consonanceListsSpec : ChangeSpec := { name := "consonanceLists", fn := fun _ => fun
  | [d1, d2] => { results := [.lit (.bool true)], args := [d1, d2] }
  | _ => none }
def consonanceListsRow : OpenClaim := { program := "ythbfchehcgnkpaa", sum := "06445e2975005addd1b43a4a1544ec9e97ef64d8b122aa95bbf5891f9a746023", func := "schisma/schismalaw40.ConsonanceLists", spec := "consonanceLists", unfollowed := true, recurses := true, apart := false }
def ConsonanceListsSaid : Prop := consonanceListsRow.holds Try.pinned (OpenSpec.ofChange consonanceListsSpec)

/-- ITS FALSE NEIGHBOUR: 'it returns false'. Refute it at one input. -/
def consonanceListsWrong : ChangeSpec := { name := "consonanceLists", fn := fun _ => fun
  | [d1, d2] => { results := [.lit (.bool false)], args := [d1, d2] }
  | _ => none }
def ConsonanceListsWrongFalsely : Prop := consonanceListsRow.holds Try.pinned (OpenSpec.ofChange consonanceListsWrong)

/-- 'schismalaw40.ConsonanceMaximal': WHATEVER THE INPUT: true; the input reads as it did. -/
def consonanceMaximalSpec : ChangeSpec := { name := "consonanceMaximal", fn := fun _ => fun
  | [d] => { results := [.lit (.bool true)], args := [d] }
  | _ => none }
def consonanceMaximalRow : OpenClaim := { program := "ythbfchehcgnkpaa", sum := "06445e2975005addd1b43a4a1544ec9e97ef64d8b122aa95bbf5891f9a746023", func := "schisma/schismalaw40.ConsonanceMaximal", spec := "consonanceMaximal", unfollowed := true, recurses := true, apart := false }
def ConsonanceMaximalSaid : Prop := consonanceMaximalRow.holds Try.pinned (OpenSpec.ofChange consonanceMaximalSpec)

/-- ITS FALSE NEIGHBOUR: 'it returns false'. Refute it at one input. -/
def consonanceMaximalWrong : ChangeSpec := { name := "consonanceMaximal", fn := fun _ => fun
  | [d] => { results := [.lit (.bool false)], args := [d] }
  | _ => none }
def ConsonanceMaximalWrongFalsely : Prop := consonanceMaximalRow.holds Try.pinned (OpenSpec.ofChange consonanceMaximalWrong)

/-- 'schismalaw40.ConsonanceChords': WHATEVER THE INPUT: true; the input reads as it did. -/
def consonanceChordsSpec : ChangeSpec := { name := "consonanceChords", fn := fun _ => fun
  | [d1, d2, d3] => { results := [.lit (.bool true)], args := [d1, d2, d3] }
  | _ => none }
def consonanceChordsRow : OpenClaim := { program := "ythbfchehcgnkpaa", sum := "06445e2975005addd1b43a4a1544ec9e97ef64d8b122aa95bbf5891f9a746023", func := "schisma/schismalaw40.ConsonanceChords", spec := "consonanceChords", unfollowed := true, recurses := true, apart := false }
def ConsonanceChordsSaid : Prop := consonanceChordsRow.holds Try.pinned (OpenSpec.ofChange consonanceChordsSpec)

/-- ITS FALSE NEIGHBOUR: 'it returns false'. Refute it at one input. -/
def consonanceChordsWrong : ChangeSpec := { name := "consonanceChords", fn := fun _ => fun
  | [d1, d2, d3] => { results := [.lit (.bool false)], args := [d1, d2, d3] }
  | _ => none }
def ConsonanceChordsWrongFalsely : Prop := consonanceChordsRow.holds Try.pinned (OpenSpec.ofChange consonanceChordsWrong)

/-- 'schismalaw40.ConsonanceNormals': WHATEVER THE INPUT: true; the input reads as it did. -/
def consonanceNormalsSpec : ChangeSpec := { name := "consonanceNormals", fn := fun _ => fun
  | [d1, d2] => { results := [.lit (.bool true)], args := [d1, d2] }
  | _ => none }
def consonanceNormalsRow : OpenClaim := { program := "ythbfchehcgnkpaa", sum := "06445e2975005addd1b43a4a1544ec9e97ef64d8b122aa95bbf5891f9a746023", func := "schisma/schismalaw40.ConsonanceNormals", spec := "consonanceNormals", unfollowed := true, recurses := true, apart := false }
def ConsonanceNormalsSaid : Prop := consonanceNormalsRow.holds Try.pinned (OpenSpec.ofChange consonanceNormalsSpec)

/-- ITS FALSE NEIGHBOUR: 'it returns false'. Refute it at one input. -/
def consonanceNormalsWrong : ChangeSpec := { name := "consonanceNormals", fn := fun _ => fun
  | [d1, d2] => { results := [.lit (.bool false)], args := [d1, d2] }
  | _ => none }
def ConsonanceNormalsWrongFalsely : Prop := consonanceNormalsRow.holds Try.pinned (OpenSpec.ofChange consonanceNormalsWrong)

/-- 'schismalaw40.ConsonanceParts': WHATEVER THE INPUT: true; the input reads as it did. -/
def consonancePartsSpec : ChangeSpec := { name := "consonanceParts", fn := fun _ => fun
  | [d] => { results := [.lit (.bool true)], args := [d] }
  | _ => none }
def consonancePartsRow : OpenClaim := { program := "ythbfchehcgnkpaa", sum := "06445e2975005addd1b43a4a1544ec9e97ef64d8b122aa95bbf5891f9a746023", func := "schisma/schismalaw40.ConsonanceParts", spec := "consonanceParts", unfollowed := true, recurses := true, apart := false }
def ConsonancePartsSaid : Prop := consonancePartsRow.holds Try.pinned (OpenSpec.ofChange consonancePartsSpec)

/-- ITS FALSE NEIGHBOUR: 'it returns false'. Refute it at one input. -/
def consonancePartsWrong : ChangeSpec := { name := "consonanceParts", fn := fun _ => fun
  | [d] => { results := [.lit (.bool false)], args := [d] }
  | _ => none }
def ConsonancePartsWrongFalsely : Prop := consonancePartsRow.holds Try.pinned (OpenSpec.ofChange consonancePartsWrong)

/-- 'schismalaw40.ConsonanceExtends': WHATEVER THE INPUT: true; the input reads as it did. -/
def consonanceExtendsSpec : ChangeSpec := { name := "consonanceExtends", fn := fun _ => fun
  | [d1, d2, d3] => { results := [.lit (.bool true)], args := [d1, d2, d3] }
  | _ => none }
def consonanceExtendsRow : OpenClaim := { program := "ythbfchehcgnkpaa", sum := "06445e2975005addd1b43a4a1544ec9e97ef64d8b122aa95bbf5891f9a746023", func := "schisma/schismalaw40.ConsonanceExtends", spec := "consonanceExtends", unfollowed := true, recurses := true, apart := false }
def ConsonanceExtendsSaid : Prop := consonanceExtendsRow.holds Try.pinned (OpenSpec.ofChange consonanceExtendsSpec)

/-- ITS FALSE NEIGHBOUR: 'it returns false'. Refute it at one input. -/
def consonanceExtendsWrong : ChangeSpec := { name := "consonanceExtends", fn := fun _ => fun
  | [d1, d2, d3] => { results := [.lit (.bool false)], args := [d1, d2, d3] }
  | _ => none }
def ConsonanceExtendsWrongFalsely : Prop := consonanceExtendsRow.holds Try.pinned (OpenSpec.ofChange consonanceExtendsWrong)

/- THE SECOND FORM. 'bulk': how many values and letters a reading holds, each counted each time it is reached (what is shared counts as often as it is met; a slice's spare places count too). A statement '..UptoSaid' is the law's where the arguments, and the package variables that the reading takes, are together of bulk at most 1048576: NARROWER than '..Said'. Prove '..Said' where nothing that the law and all that it calls make is longer than what came in: it says more and counts as full. Else prove '..UptoSaid'. A law counts once. -/
mutual
def uptoBulk {H : Type} : DataW H → Nat
  | .lit (.string bytes) => bytes.length + 1
  | .lit _ => 1
  | .nil => 1
  | .ptr d => uptoBulk d + 1
  | .slice elems spare => uptoBulkAll elems + uptoBulkAll spare + 1
  | .agg parts => uptoBulkAll parts + 1
  | .iface _ d => uptoBulk d + 1
  | .map entries => uptoBulkEntries entries + 1
  | .held _ => 1
def uptoBulkAll {H : Type} : List (DataW H) → Nat
  | [] => 0
  | d :: r => uptoBulk d + uptoBulkAll r
def uptoBulkEntries {H : Type} : List (Lit × DataW H) → Nat
  | [] => 0
  | x :: r => uptoBulkEntry x + uptoBulkEntries r
def uptoBulkEntry {H : Type} : Lit × DataW H → Nat
  | (.string bytes, d) => bytes.length + uptoBulk d + 1
  | (_, d) => uptoBulk d + 1
 end
def uptoSmall : (H : Type) → List (DataW H) → Bool := fun _ ds => decide (uptoBulkAll ds ≤ 1048576)
def OpenSpec.upto (s : _root_.Go.ChangeSpec) : _root_.Go.OpenSpec := { _root_.Go.OpenSpec.ofChange s with cond := some uptoSmall }

/-- 'schismalaw40.ConsonanceCloses', WHERE WHAT IT READS IS OF BULK AT MOST 1048576: true; the input reads as it did. -/
def consonanceClosesUptoRow : OpenClaim := { program := "ythbfchehcgnkpaa", sum := "06445e2975005addd1b43a4a1544ec9e97ef64d8b122aa95bbf5891f9a746023", func := "schisma/schismalaw40.ConsonanceCloses", spec := "consonanceCloses", unfollowed := true, recurses := true, apart := false, narrowed := true }
def ConsonanceClosesUptoSaid : Prop := consonanceClosesUptoRow.holds Try.pinned (OpenSpec.upto consonanceClosesSpec)

/-- 'schismalaw40.ConsonanceLists', WHERE WHAT IT READS IS OF BULK AT MOST 1048576: true; the input reads as it did. -/
def consonanceListsUptoRow : OpenClaim := { program := "ythbfchehcgnkpaa", sum := "06445e2975005addd1b43a4a1544ec9e97ef64d8b122aa95bbf5891f9a746023", func := "schisma/schismalaw40.ConsonanceLists", spec := "consonanceLists", unfollowed := true, recurses := true, apart := false, narrowed := true }
def ConsonanceListsUptoSaid : Prop := consonanceListsUptoRow.holds Try.pinned (OpenSpec.upto consonanceListsSpec)

/-- 'schismalaw40.ConsonanceMaximal', WHERE WHAT IT READS IS OF BULK AT MOST 1048576: true; the input reads as it did. -/
def consonanceMaximalUptoRow : OpenClaim := { program := "ythbfchehcgnkpaa", sum := "06445e2975005addd1b43a4a1544ec9e97ef64d8b122aa95bbf5891f9a746023", func := "schisma/schismalaw40.ConsonanceMaximal", spec := "consonanceMaximal", unfollowed := true, recurses := true, apart := false, narrowed := true }
def ConsonanceMaximalUptoSaid : Prop := consonanceMaximalUptoRow.holds Try.pinned (OpenSpec.upto consonanceMaximalSpec)

/-- 'schismalaw40.ConsonanceChords', WHERE WHAT IT READS IS OF BULK AT MOST 1048576: true; the input reads as it did. -/
def consonanceChordsUptoRow : OpenClaim := { program := "ythbfchehcgnkpaa", sum := "06445e2975005addd1b43a4a1544ec9e97ef64d8b122aa95bbf5891f9a746023", func := "schisma/schismalaw40.ConsonanceChords", spec := "consonanceChords", unfollowed := true, recurses := true, apart := false, narrowed := true }
def ConsonanceChordsUptoSaid : Prop := consonanceChordsUptoRow.holds Try.pinned (OpenSpec.upto consonanceChordsSpec)

/-- 'schismalaw40.ConsonanceNormals', WHERE WHAT IT READS IS OF BULK AT MOST 1048576: true; the input reads as it did. -/
def consonanceNormalsUptoRow : OpenClaim := { program := "ythbfchehcgnkpaa", sum := "06445e2975005addd1b43a4a1544ec9e97ef64d8b122aa95bbf5891f9a746023", func := "schisma/schismalaw40.ConsonanceNormals", spec := "consonanceNormals", unfollowed := true, recurses := true, apart := false, narrowed := true }
def ConsonanceNormalsUptoSaid : Prop := consonanceNormalsUptoRow.holds Try.pinned (OpenSpec.upto consonanceNormalsSpec)

/-- 'schismalaw40.ConsonanceParts', WHERE WHAT IT READS IS OF BULK AT MOST 1048576: true; the input reads as it did. -/
def consonancePartsUptoRow : OpenClaim := { program := "ythbfchehcgnkpaa", sum := "06445e2975005addd1b43a4a1544ec9e97ef64d8b122aa95bbf5891f9a746023", func := "schisma/schismalaw40.ConsonanceParts", spec := "consonanceParts", unfollowed := true, recurses := true, apart := false, narrowed := true }
def ConsonancePartsUptoSaid : Prop := consonancePartsUptoRow.holds Try.pinned (OpenSpec.upto consonancePartsSpec)

/-- 'schismalaw40.ConsonanceExtends', WHERE WHAT IT READS IS OF BULK AT MOST 1048576: true; the input reads as it did. -/
def consonanceExtendsUptoRow : OpenClaim := { program := "ythbfchehcgnkpaa", sum := "06445e2975005addd1b43a4a1544ec9e97ef64d8b122aa95bbf5891f9a746023", func := "schisma/schismalaw40.ConsonanceExtends", spec := "consonanceExtends", unfollowed := true, recurses := true, apart := false, narrowed := true }
def ConsonanceExtendsUptoSaid : Prop := consonanceExtendsUptoRow.holds Try.pinned (OpenSpec.upto consonanceExtendsSpec)

end Rows
end Go.Proofs.Ythbfchehcgnkpaa
