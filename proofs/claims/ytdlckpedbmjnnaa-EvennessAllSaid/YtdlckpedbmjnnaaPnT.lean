/- The plain machine and the program: slices.Sort and slices.Compact at ints, by the shelf. -/
import Derived.Test.YtdlckpedbmjnnaaPnU
import Derived.Test.YtdlckpedbmjnnaaPnH
import Derived.Test.YtdlckpedbmjnnaaShelf
import Derived.Lib.RowBridge
set_option linter.unusedSimpArgs false
set_option linter.unusedVariables false
namespace Go.PM
open Go Go.RowKit Go.Proofs
abbrev s31 : Shr := (31, sortH)
theorem s31_ok : ShrOK Try.prog s31 := fun _ _ _ h => sort_own (enters Try.func31 (by kernel_rfl) (by kernel_rfl)) Try.slices_Sort_int Try.slices_Sort_int_none h
abbrev s32 : Shr := (32, compactH)
theorem s32_ok : ShrOK Try.prog s32 := fun _ _ _ h => compact_own (enters Try.func32 (by kernel_rfl) (by kernel_rfl)) (fun l => Lib.compact_length_le l) Try.slices_Compact_int Try.slices_Compact_int_empty h
end Go.PM
