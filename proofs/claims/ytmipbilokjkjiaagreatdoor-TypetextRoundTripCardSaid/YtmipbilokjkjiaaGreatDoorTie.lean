/-
  DERIVED. GIVEN WITH THE SEED: THE PROGRAM's TIES (one call each: nine closed facts by the kernel) AND EACH ROW's TIE, after the 31st guide's Derived/Test/Toyas{Tie, Card}.lean. No idea stands in it: it is a product of the set-up. Laid BY PROGRAM, IN A SANDBOX (cutbox-door.mjs). By AI agents, Wed Nov 11 2026. No macro, syntax, notation, axiom, sorry.
-/
import Derived.Test.YtmipbilokjkjiaaGreatDoorRows
import Derived.LaidByTextLater
import Derived.SevenTiedAt
import Derived.LaidSub
import Derived.LaidOnce
namespace Go.Proofs.YtmipbilokjkjiaaGreatDoor
open Go
set_option maxRecDepth 100000
theorem seatTie1 : Tryz.prog.laidByTextLater [("math/bits.deBruijn32tab", Rows.laid_math_bits_deBruijn32tab), ("math/bits.deBruijn64tab", Rows.laid_math_bits_deBruijn64tab), ("internal/strconv.uint64pow10", Rows.laid_internal_strconv_uint64pow10), ("telpher/typeterm.reserved", Rows.laid_telpher_typeterm_reserved), ("telpher/telmake.words", Rows.laid_telpher_telmake_words), ("telpher/telmake.strings", Rows.laid_telpher_telmake_strings), ("telpher/telmake.typeWords", Rows.laid_telpher_telmake_typeWords), ("telpher/telmake.extraNames", Rows.laid_telpher_telmake_extraNames), ("telpher/telmake.leafNames", Rows.laid_telpher_telmake_leafNames), ("telpher/telmake.anyNames", Rows.laid_telpher_telmake_anyNames), ("telpher/typetext.reserved", Rows.laid_telpher_typetext_reserved)] [.data, .data, .data, .widerDeep, .data, .data, .data, .data, .data, .data, .widerDeep] true :=
  Program.laidByTextLater_by_one 64 8 65 (by kernel_rfl) (by kernel_rfl) (by kernel_rfl) (by kernel_rfl) (by kernel_rfl) (by kernel_rfl) (fun _ _ => by kernel_rfl)
theorem noOwnUnsafe : Tryz.pinned.checked.prog.headLifts.contains "ownunsafe" = false := by kernel_rfl
theorem tie : Tryz.prog.laidByTextLater [("math/bits.deBruijn32tab", Rows.laid_math_bits_deBruijn32tab), ("math/bits.deBruijn64tab", Rows.laid_math_bits_deBruijn64tab), ("internal/strconv.uint64pow10", Rows.laid_internal_strconv_uint64pow10), ("telpher/typeterm.reserved", Rows.laid_telpher_typeterm_reserved), ("telpher/telmake.extraNames", Rows.laid_telpher_telmake_extraNames), ("telpher/telmake.leafNames", Rows.laid_telpher_telmake_leafNames), ("telpher/typetext.reserved", Rows.laid_telpher_typetext_reserved)] [.data, .data, .data, .widerDeep, .data, .data, .widerDeep] true :=
  Program.laidByTextLater.sub seatTie1 ["math/bits.deBruijn32tab", "math/bits.deBruijn64tab", "internal/strconv.uint64pow10", "telpher/typeterm.reserved", "telpher/telmake.extraNames", "telpher/telmake.leafNames", "telpher/typetext.reserved"] (by kernel_rfl) (by kernel_rfl)
theorem typetextRoundTrip_row_tie : Rows.typetextRoundTripRow.laidByTextAt .later Tryz.pinned [.data, .data, .data, .widerDeep, .data, .data, .widerDeep] true :=
  OpenClaim.laidByTextAt_later rfl rfl tie noOwnUnsafe
theorem tie2 : Tryz.prog.laidByTextLater [("math/bits.deBruijn32tab", Rows.laid_math_bits_deBruijn32tab), ("math/bits.deBruijn64tab", Rows.laid_math_bits_deBruijn64tab), ("internal/strconv.uint64pow10", Rows.laid_internal_strconv_uint64pow10), ("telpher/typeterm.reserved", Rows.laid_telpher_typeterm_reserved), ("telpher/telmake.leafNames", Rows.laid_telpher_telmake_leafNames), ("telpher/telmake.anyNames", Rows.laid_telpher_telmake_anyNames), ("telpher/typetext.reserved", Rows.laid_telpher_typetext_reserved)] [.data, .data, .data, .widerDeep, .data, .data, .widerDeep] true :=
  Program.laidByTextLater.sub seatTie1 ["math/bits.deBruijn32tab", "math/bits.deBruijn64tab", "internal/strconv.uint64pow10", "telpher/typeterm.reserved", "telpher/telmake.leafNames", "telpher/telmake.anyNames", "telpher/typetext.reserved"] (by kernel_rfl) (by kernel_rfl)
theorem typetextFormat_row_tie : Rows.typetextFormatRow.laidByTextAt .later Tryz.pinned [.data, .data, .data, .widerDeep, .data, .data, .widerDeep] true :=
  OpenClaim.laidByTextAt_later rfl rfl tie2 noOwnUnsafe
theorem tie3 : Tryz.prog.laidByTextLater [("math/bits.deBruijn32tab", Rows.laid_math_bits_deBruijn32tab), ("math/bits.deBruijn64tab", Rows.laid_math_bits_deBruijn64tab), ("internal/strconv.uint64pow10", Rows.laid_internal_strconv_uint64pow10), ("telpher/typeterm.reserved", Rows.laid_telpher_typeterm_reserved), ("telpher/telmake.words", Rows.laid_telpher_telmake_words), ("telpher/telmake.strings", Rows.laid_telpher_telmake_strings), ("telpher/telmake.typeWords", Rows.laid_telpher_telmake_typeWords), ("telpher/typetext.reserved", Rows.laid_telpher_typetext_reserved)] [.data, .data, .data, .widerDeep, .data, .data, .data, .widerDeep] true :=
  Program.laidByTextLater.sub seatTie1 ["math/bits.deBruijn32tab", "math/bits.deBruijn64tab", "internal/strconv.uint64pow10", "telpher/typeterm.reserved", "telpher/telmake.words", "telpher/telmake.strings", "telpher/telmake.typeWords", "telpher/typetext.reserved"] (by kernel_rfl) (by kernel_rfl)
theorem typetextNodes_row_tie : Rows.typetextNodesRow.laidByTextAt .later Tryz.pinned [.data, .data, .data, .widerDeep, .data, .data, .data, .widerDeep] true :=
  OpenClaim.laidByTextAt_later rfl rfl tie3 noOwnUnsafe
theorem tie4 : Tryz.prog.laidByTextLater [("math/bits.deBruijn32tab", Rows.laid_math_bits_deBruijn32tab), ("math/bits.deBruijn64tab", Rows.laid_math_bits_deBruijn64tab), ("internal/strconv.uint64pow10", Rows.laid_internal_strconv_uint64pow10), ("telpher/typeterm.reserved", Rows.laid_telpher_typeterm_reserved), ("telpher/telmake.leafNames", Rows.laid_telpher_telmake_leafNames), ("telpher/typetext.reserved", Rows.laid_telpher_typetext_reserved)] [.data, .data, .data, .widerDeep, .data, .widerDeep] true :=
  Program.laidByTextLater.sub seatTie1 ["math/bits.deBruijn32tab", "math/bits.deBruijn64tab", "internal/strconv.uint64pow10", "telpher/typeterm.reserved", "telpher/telmake.leafNames", "telpher/typetext.reserved"] (by kernel_rfl) (by kernel_rfl)
theorem typetextInjective_row_tie : Rows.typetextInjectiveRow.laidByTextAt .later Tryz.pinned [.data, .data, .data, .widerDeep, .data, .widerDeep] true :=
  OpenClaim.laidByTextAt_later rfl rfl tie4 noOwnUnsafe
theorem typetextRoundTripUpto_row_tie : Rows.typetextRoundTripUptoRow.laidByTextAt .later Tryz.pinned [.data, .data, .data, .widerDeep, .data, .data, .widerDeep] true :=
  OpenClaim.laidByTextAt_later rfl rfl tie noOwnUnsafe
theorem typetextFormatUpto_row_tie : Rows.typetextFormatUptoRow.laidByTextAt .later Tryz.pinned [.data, .data, .data, .widerDeep, .data, .data, .widerDeep] true :=
  OpenClaim.laidByTextAt_later rfl rfl tie2 noOwnUnsafe
theorem typetextNodesUpto_row_tie : Rows.typetextNodesUptoRow.laidByTextAt .later Tryz.pinned [.data, .data, .data, .widerDeep, .data, .data, .data, .widerDeep] true :=
  OpenClaim.laidByTextAt_later rfl rfl tie3 noOwnUnsafe
theorem typetextInjectiveUpto_row_tie : Rows.typetextInjectiveUptoRow.laidByTextAt .later Tryz.pinned [.data, .data, .data, .widerDeep, .data, .widerDeep] true :=
  OpenClaim.laidByTextAt_later rfl rfl tie4 noOwnUnsafe
end Go.Proofs.YtmipbilokjkjiaaGreatDoor
