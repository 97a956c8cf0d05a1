/-
  DERIVED. GIVEN WITH THE SEED: THE PROGRAM's TIES (one call each: nine closed facts by the kernel) AND EACH ROW's TIE, after the 31st guide's Derived/Test/Toyas{Tie, Card}.lean. No idea stands in it: it is a product of the set-up. Laid BY PROGRAM, IN A SANDBOX (cutbox-door.mjs). By AI agents, Wed Nov 11 2026. No macro, syntax, notation, axiom, sorry.
-/
import Derived.Test.YtpgfpakdnijngaaGreatDoorRows
import Derived.LaidByTextLater
import Derived.SevenTiedAt
import Derived.LaidSub
import Derived.LaidOnce
namespace Go.Proofs.YtpgfpakdnijngaaGreatDoor
open Go
set_option maxRecDepth 100000
theorem seatTie1 : Tryz.prog.laidByTextLater [("math/bits.deBruijn32tab", Rows.laid_math_bits_deBruijn32tab), ("math/bits.deBruijn64tab", Rows.laid_math_bits_deBruijn64tab), ("internal/strconv.uint64pow10", Rows.laid_internal_strconv_uint64pow10), ("strconv.ErrRange", Rows.laid_strconv_ErrRange), ("strconv.ErrSyntax", Rows.laid_strconv_ErrSyntax), ("telpher/typeterm.reserved", Rows.laid_telpher_typeterm_reserved), ("telpher/telmake.leafNames", Rows.laid_telpher_telmake_leafNames), ("telpher/telmake.anyNames", Rows.laid_telpher_telmake_anyNames)] [.data, .data, .data, .sentinel, .sentinel, .widerDeep, .data, .data] true :=
  Program.laidByTextLater_by_one 77 8 65 (by kernel_rfl) (by kernel_rfl) (by kernel_rfl) (by kernel_rfl) (by kernel_rfl) (by kernel_rfl) (fun _ _ => by kernel_rfl)
theorem noOwnUnsafe : Tryz.pinned.checked.prog.headLifts.contains "ownunsafe" = false := by kernel_rfl
theorem tie : Tryz.prog.laidByTextLater [("math/bits.deBruijn32tab", Rows.laid_math_bits_deBruijn32tab), ("math/bits.deBruijn64tab", Rows.laid_math_bits_deBruijn64tab), ("internal/strconv.uint64pow10", Rows.laid_internal_strconv_uint64pow10), ("strconv.ErrRange", Rows.laid_strconv_ErrRange), ("strconv.ErrSyntax", Rows.laid_strconv_ErrSyntax), ("telpher/typeterm.reserved", Rows.laid_telpher_typeterm_reserved), ("telpher/telmake.leafNames", Rows.laid_telpher_telmake_leafNames)] [.data, .data, .data, .sentinel, .sentinel, .widerDeep, .data] true :=
  Program.laidByTextLater.sub seatTie1 ["math/bits.deBruijn32tab", "math/bits.deBruijn64tab", "internal/strconv.uint64pow10", "strconv.ErrRange", "strconv.ErrSyntax", "telpher/typeterm.reserved", "telpher/telmake.leafNames"] (by kernel_rfl) (by kernel_rfl)
theorem dnfExpand_row_tie : Rows.dnfExpandRow.laidByTextAt .later Tryz.pinned [.data, .data, .data, .sentinel, .sentinel, .widerDeep, .data] true :=
  OpenClaim.laidByTextAt_later rfl rfl tie noOwnUnsafe
theorem dnfDistributes_row_tie : Rows.dnfDistributesRow.laidByTextAt .later Tryz.pinned [.data, .data, .data, .sentinel, .sentinel, .widerDeep, .data] true :=
  OpenClaim.laidByTextAt_later rfl rfl tie noOwnUnsafe
theorem dnfSplit_row_tie : Rows.dnfSplitRow.laidByTextAt .later Tryz.pinned [.data, .data, .data, .sentinel, .sentinel, .widerDeep, .data] true :=
  OpenClaim.laidByTextAt_later rfl rfl tie noOwnUnsafe
theorem dnfValid_row_tie : Rows.dnfValidRow.laidByTextAt .later Tryz.pinned [.data, .data, .data, .sentinel, .sentinel, .widerDeep, .data] true :=
  OpenClaim.laidByTextAt_later rfl rfl tie noOwnUnsafe
theorem dnfCanonical_row_tie : Rows.dnfCanonicalRow.laidByTextAt .later Tryz.pinned [.data, .data, .data, .sentinel, .sentinel, .widerDeep, .data] true :=
  OpenClaim.laidByTextAt_later rfl rfl tie noOwnUnsafe
theorem dnfBranches_row_tie : Rows.dnfBranchesRow.laidByTextAt .later Tryz.pinned [.data, .data, .data, .sentinel, .sentinel, .widerDeep, .data] true :=
  OpenClaim.laidByTextAt_later rfl rfl tie noOwnUnsafe
theorem tie2 : Tryz.prog.laidByTextLater [("math/bits.deBruijn32tab", Rows.laid_math_bits_deBruijn32tab), ("math/bits.deBruijn64tab", Rows.laid_math_bits_deBruijn64tab), ("internal/strconv.uint64pow10", Rows.laid_internal_strconv_uint64pow10), ("strconv.ErrRange", Rows.laid_strconv_ErrRange), ("strconv.ErrSyntax", Rows.laid_strconv_ErrSyntax), ("telpher/typeterm.reserved", Rows.laid_telpher_typeterm_reserved), ("telpher/telmake.anyNames", Rows.laid_telpher_telmake_anyNames)] [.data, .data, .data, .sentinel, .sentinel, .widerDeep, .data] true :=
  Program.laidByTextLater.sub seatTie1 ["math/bits.deBruijn32tab", "math/bits.deBruijn64tab", "internal/strconv.uint64pow10", "strconv.ErrRange", "strconv.ErrSyntax", "telpher/typeterm.reserved", "telpher/telmake.anyNames"] (by kernel_rfl) (by kernel_rfl)
theorem dnfExpandAny_row_tie : Rows.dnfExpandAnyRow.laidByTextAt .later Tryz.pinned [.data, .data, .data, .sentinel, .sentinel, .widerDeep, .data] true :=
  OpenClaim.laidByTextAt_later rfl rfl tie2 noOwnUnsafe
theorem dnfExpandUpto_row_tie : Rows.dnfExpandUptoRow.laidByTextAt .later Tryz.pinned [.data, .data, .data, .sentinel, .sentinel, .widerDeep, .data] true :=
  OpenClaim.laidByTextAt_later rfl rfl tie noOwnUnsafe
theorem dnfExpandAnyUpto_row_tie : Rows.dnfExpandAnyUptoRow.laidByTextAt .later Tryz.pinned [.data, .data, .data, .sentinel, .sentinel, .widerDeep, .data] true :=
  OpenClaim.laidByTextAt_later rfl rfl tie2 noOwnUnsafe
theorem dnfDistributesUpto_row_tie : Rows.dnfDistributesUptoRow.laidByTextAt .later Tryz.pinned [.data, .data, .data, .sentinel, .sentinel, .widerDeep, .data] true :=
  OpenClaim.laidByTextAt_later rfl rfl tie noOwnUnsafe
theorem dnfSplitUpto_row_tie : Rows.dnfSplitUptoRow.laidByTextAt .later Tryz.pinned [.data, .data, .data, .sentinel, .sentinel, .widerDeep, .data] true :=
  OpenClaim.laidByTextAt_later rfl rfl tie noOwnUnsafe
theorem dnfValidUpto_row_tie : Rows.dnfValidUptoRow.laidByTextAt .later Tryz.pinned [.data, .data, .data, .sentinel, .sentinel, .widerDeep, .data] true :=
  OpenClaim.laidByTextAt_later rfl rfl tie noOwnUnsafe
theorem dnfCanonicalUpto_row_tie : Rows.dnfCanonicalUptoRow.laidByTextAt .later Tryz.pinned [.data, .data, .data, .sentinel, .sentinel, .widerDeep, .data] true :=
  OpenClaim.laidByTextAt_later rfl rfl tie noOwnUnsafe
theorem dnfBranchesUpto_row_tie : Rows.dnfBranchesUptoRow.laidByTextAt .later Tryz.pinned [.data, .data, .data, .sentinel, .sentinel, .widerDeep, .data] true :=
  OpenClaim.laidByTextAt_later rfl rfl tie noOwnUnsafe
end Go.Proofs.YtpgfpakdnijngaaGreatDoor
