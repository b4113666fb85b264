/- The tie's list, and its words, kinds and names (closed facts, by the kernel). -/
import Derived.Test.YtgljampcnbgbhaaGreatDoorRows
import Derived.LaidByTextLater
import Derived.SevenTiedAt
namespace Go.Proofs.YtgljampcnbgbhaaGreatDoor
open Go
def tieList : List (String × DataW Unit) := [("internal/strconv.uint64pow10", Rows.laid_internal_strconv_uint64pow10), ("math/bits.deBruijn32tab", Rows.laid_math_bits_deBruijn32tab), ("math/bits.deBruijn64tab", Rows.laid_math_bits_deBruijn64tab), ("unicode/utf8.acceptRanges", Rows.laid_unicode_utf8_acceptRanges), ("strings.asciiSpace", Rows.laid_strings_asciiSpace), ("unicode.White_Space", Rows.laid_unicode_White_Space), ("strconv.ErrSyntax", Rows.laid_strconv_ErrSyntax), ("strconv.ErrRange", Rows.laid_strconv_ErrRange)]
theorem tw : Tryz.prog.worded (varsWordLater true) = true := by kernel_rfl
theorem tw2 : Tryz.prog.worded (varsWordLater !true) = false := by kernel_rfl
theorem tr : Tryz.prog.worded rootWordLater = true := by kernel_rfl
theorem tk : tieList.map (fun x => Tryz.prog.kindOfLater x.1) = ([.data, .data, .data, .data, .data, .listed, .sentinel, .sentinel] : List LaidKind).map some := by kernel_rfl
theorem tg : (Tryz.prog.funcNamed "gosem.cut.vars").isSome = true := by kernel_rfl
theorem tp : (tieList.all fun x => x.2.handleName?.isNone) = true := by kernel_rfl
end Go.Proofs.YtgljampcnbgbhaaGreatDoor
