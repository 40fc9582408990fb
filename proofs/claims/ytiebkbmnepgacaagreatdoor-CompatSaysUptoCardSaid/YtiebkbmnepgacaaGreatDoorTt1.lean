import Derived.Test.YtiebkbmnepgacaaGreatDoorRows
import Derived.LaidByTextLater
import Derived.LaidOnce
import Derived.SevenTiedAt
/-
  The program's tie: the words, the names.
-/
namespace Go.Proofs.YtiebkbmnepgacaaGreatDoor
open Go
def laidL : List (String × DataW Unit) := [("sigil/bind.errLong", Rows.laid_sigil_bind_errLong), ("sigil/bind.errName", Rows.laid_sigil_bind_errName), ("sigil/bind.errImport", Rows.laid_sigil_bind_errImport), ("sigil/bind.errTwice", Rows.laid_sigil_bind_errTwice), ("sigil/bind.errUnknown", Rows.laid_sigil_bind_errUnknown), ("sigil/bind.errNoType", Rows.laid_sigil_bind_errNoType), ("sigil/bind.errNumber", Rows.laid_sigil_bind_errNumber), ("sigil/bind.errValue", Rows.laid_sigil_bind_errValue), ("sigil/bind.errMapKey", Rows.laid_sigil_bind_errMapKey), ("sigil/bind.errJson", Rows.laid_sigil_bind_errJson), ("sigil/bind.errGone", Rows.laid_sigil_bind_errGone), ("sigil/bind.errTypes", Rows.laid_sigil_bind_errTypes), ("sigil/wire.rows", Rows.laid_sigil_wire_rows), ("unicode/utf8.acceptRanges", Rows.laid_unicode_utf8_acceptRanges), ("internal/strconv.uint64pow10", Rows.laid_internal_strconv_uint64pow10), ("math/bits.deBruijn32tab", Rows.laid_math_bits_deBruijn32tab), ("math/bits.deBruijn64tab", Rows.laid_math_bits_deBruijn64tab), ("sigil/compat.sayings", Rows.laid_sigil_compat_sayings)]
theorem tie_w : Tryz.prog.worded (varsWordLater true) = true := by kernel_rfl
theorem tie_w2 : Tryz.prog.worded (varsWordLater !true) = false := by kernel_rfl
theorem tie_r : Tryz.prog.worded rootWordLater = true := by kernel_rfl
theorem tie_k : laidL.map (fun x => Tryz.prog.kindOfLater x.1) = ([.sentinel, .sentinel, .sentinel, .sentinel, .sentinel, .sentinel, .sentinel, .sentinel, .sentinel, .sentinel, .sentinel, .sentinel, .data, .data, .data, .data, .data, .data] : List LaidKind).map some := by kernel_rfl
theorem tie_g : (Tryz.prog.funcNamed "gosem.cut.vars").isSome = true := by kernel_rfl
end Go.Proofs.YtiebkbmnepgacaaGreatDoor
