import Derived.Test.YtiebkbmnepgacaaGreatDoorTt2
import Derived.Test.YtiebkbmnepgacaaGreatDoorTt3
import Derived.Test.YtiebkbmnepgacaaGreatDoorRows
import Derived.LaidByTextLater
import Derived.LaidOnce
import Derived.SevenTiedAt
/-
  The program's tie: all together.
-/
namespace Go.Proofs.YtiebkbmnepgacaaGreatDoor
open Go
theorem pin_laid_unicode_utf8_first : Tryz.pinned.checked.prog.pinnedFits "unicode/utf8.first" = true := by kernel_rfl
theorem noOwnUnsafe : Tryz.pinned.checked.prog.headLifts.contains "ownunsafe" = false := by kernel_rfl
theorem fits1 : Tryz.pinned.checked.prog.listedFits [("sigil/bind.errLong", Rows.laid_sigil_bind_errLong), ("sigil/bind.errName", Rows.laid_sigil_bind_errName), ("sigil/bind.errImport", Rows.laid_sigil_bind_errImport), ("sigil/bind.errTwice", Rows.laid_sigil_bind_errTwice), ("sigil/bind.errUnknown", Rows.laid_sigil_bind_errUnknown), ("sigil/bind.errNoType", Rows.laid_sigil_bind_errNoType), ("sigil/bind.errNumber", Rows.laid_sigil_bind_errNumber), ("sigil/bind.errValue", Rows.laid_sigil_bind_errValue), ("sigil/bind.errMapKey", Rows.laid_sigil_bind_errMapKey), ("sigil/bind.errJson", Rows.laid_sigil_bind_errJson), ("sigil/bind.errGone", Rows.laid_sigil_bind_errGone), ("sigil/bind.errTypes", Rows.laid_sigil_bind_errTypes), ("sigil/wire.rows", Rows.laid_sigil_wire_rows), ("unicode/utf8.first", Rows.laid_unicode_utf8_first), ("unicode/utf8.acceptRanges", Rows.laid_unicode_utf8_acceptRanges), ("internal/strconv.uint64pow10", Rows.laid_internal_strconv_uint64pow10), ("math/bits.deBruijn32tab", Rows.laid_math_bits_deBruijn32tab), ("math/bits.deBruijn64tab", Rows.laid_math_bits_deBruijn64tab), ("sigil/compat.sayings", Rows.laid_sigil_compat_sayings)] = true := by
  unfold Program.listedFits
  rw [noOwnUnsafe]
  kernel_rfl
theorem tie : Tryz.prog.laidByTextLater laidL [.sentinel, .sentinel, .sentinel, .sentinel, .sentinel, .sentinel, .sentinel, .sentinel, .sentinel, .sentinel, .sentinel, .sentinel, .data, .data, .data, .data, .data, .data] true :=
  Program.laidByTextLater_by_one 400 8 300 tie_w tie_w2 tie_r tie_k tie_g tie_n tie_run
end Go.Proofs.YtiebkbmnepgacaaGreatDoor
