/-
  DERIVED. GIVEN WITH THE SEED: THE PROGRAM's TIES (one call each: nine closed facts by the kernel) AND EACH ROW's TIE, after the 31st guide's Derived/Test/Toyas{Tie, Card}.lean. No idea stands in it: it is a product of the set-up. Laid BY PROGRAM, IN A SANDBOX (cutbox-door.mjs). By AI agents, Wed Nov 11 2026. No macro, syntax, notation, axiom, sorry.
-/
import Derived.Test.YtfnaahkgegfbnaaGreatDoorRows
import Derived.LaidByTextLater
import Derived.SevenTiedAt
import Derived.LaidSub
import Derived.LaidOnce
namespace Go.Proofs.YtfnaahkgegfbnaaGreatDoor
open Go
set_option maxRecDepth 100000
theorem seatTie1 : Tryz.prog.laidByTextLater [("math/bits.deBruijn32tab", Rows.laid_math_bits_deBruijn32tab), ("math/bits.deBruijn64tab", Rows.laid_math_bits_deBruijn64tab), ("internal/strconv.uint64pow10", Rows.laid_internal_strconv_uint64pow10), ("strconv.ErrRange", Rows.laid_strconv_ErrRange), ("strconv.ErrSyntax", Rows.laid_strconv_ErrSyntax), ("unicode.White_Space", Rows.laid_unicode_White_Space), ("strings.asciiSpace", Rows.laid_strings_asciiSpace), ("sleuth/syntax.tight", Rows.laid_sleuth_syntax_tight), ("sleuth/syntax.closing", Rows.laid_sleuth_syntax_closing), ("sleuth/syntax.relationNames", Rows.laid_sleuth_syntax_relationNames), ("sleuth/syntax.aggregateNames", Rows.laid_sleuth_syntax_aggregateNames)] [.data, .data, .data, .sentinel, .sentinel, .listed, .data, .widerDeep, .widerDeep, .widerDeep, .widerDeep] true :=
  Program.laidByTextLater_by_one 106 8 257 (by kernel_rfl) (by kernel_rfl) (by kernel_rfl) (by kernel_rfl) (by kernel_rfl) (by kernel_rfl) (fun _ _ => by kernel_rfl)
theorem noOwnUnsafe : Tryz.pinned.checked.prog.headLifts.contains "ownunsafe" = false := by kernel_rfl
theorem tie : Tryz.prog.laidByTextLater [("math/bits.deBruijn32tab", Rows.laid_math_bits_deBruijn32tab), ("math/bits.deBruijn64tab", Rows.laid_math_bits_deBruijn64tab), ("internal/strconv.uint64pow10", Rows.laid_internal_strconv_uint64pow10), ("strconv.ErrRange", Rows.laid_strconv_ErrRange), ("strconv.ErrSyntax", Rows.laid_strconv_ErrSyntax), ("unicode.White_Space", Rows.laid_unicode_White_Space), ("strings.asciiSpace", Rows.laid_strings_asciiSpace), ("sleuth/syntax.tight", Rows.laid_sleuth_syntax_tight), ("sleuth/syntax.closing", Rows.laid_sleuth_syntax_closing), ("sleuth/syntax.relationNames", Rows.laid_sleuth_syntax_relationNames), ("sleuth/syntax.aggregateNames", Rows.laid_sleuth_syntax_aggregateNames)] [.data, .data, .data, .sentinel, .sentinel, .listed, .data, .widerDeep, .widerDeep, .widerDeep, .widerDeep] true :=
  Program.laidByTextLater.sub seatTie1 ["math/bits.deBruijn32tab", "math/bits.deBruijn64tab", "internal/strconv.uint64pow10", "strconv.ErrRange", "strconv.ErrSyntax", "unicode.White_Space", "strings.asciiSpace", "sleuth/syntax.tight", "sleuth/syntax.closing", "sleuth/syntax.relationNames", "sleuth/syntax.aggregateNames"] (by kernel_rfl) (by kernel_rfl)
theorem syntaxNames_row_tie : Rows.syntaxNamesRow.laidByTextAt .later Tryz.pinned [.data, .data, .data, .sentinel, .sentinel, .listed, .data, .widerDeep, .widerDeep, .widerDeep, .widerDeep] true :=
  OpenClaim.laidByTextAt_later rfl rfl tie noOwnUnsafe
theorem syntaxParses_row_tie : Rows.syntaxParsesRow.laidByTextAt .later Tryz.pinned [.data, .data, .data, .sentinel, .sentinel, .listed, .data, .widerDeep, .widerDeep, .widerDeep, .widerDeep] true :=
  OpenClaim.laidByTextAt_later rfl rfl tie noOwnUnsafe
theorem syntaxWords_row_tie : Rows.syntaxWordsRow.laidByTextAt .later Tryz.pinned [.data, .data, .data, .sentinel, .sentinel, .listed, .data, .widerDeep, .widerDeep, .widerDeep, .widerDeep] true :=
  OpenClaim.laidByTextAt_later rfl rfl tie noOwnUnsafe
theorem syntaxSpaces_row_tie : Rows.syntaxSpacesRow.laidByTextAt .later Tryz.pinned [.data, .data, .data, .sentinel, .sentinel, .listed, .data, .widerDeep, .widerDeep, .widerDeep, .widerDeep] true :=
  OpenClaim.laidByTextAt_later rfl rfl tie noOwnUnsafe
theorem syntaxEnds_row_tie : Rows.syntaxEndsRow.laidByTextAt .later Tryz.pinned [.data, .data, .data, .sentinel, .sentinel, .listed, .data, .widerDeep, .widerDeep, .widerDeep, .widerDeep] true :=
  OpenClaim.laidByTextAt_later rfl rfl tie noOwnUnsafe
theorem syntaxPreds_row_tie : Rows.syntaxPredsRow.laidByTextAt .later Tryz.pinned [.data, .data, .data, .sentinel, .sentinel, .listed, .data, .widerDeep, .widerDeep, .widerDeep, .widerDeep] true :=
  OpenClaim.laidByTextAt_later rfl rfl tie noOwnUnsafe
theorem syntaxRaw_row_tie : Rows.syntaxRawRow.laidByTextAt .later Tryz.pinned [.data, .data, .data, .sentinel, .sentinel, .listed, .data, .widerDeep, .widerDeep, .widerDeep, .widerDeep] true :=
  OpenClaim.laidByTextAt_later rfl rfl tie noOwnUnsafe
theorem syntaxTrees_row_tie : Rows.syntaxTreesRow.laidByTextAt .later Tryz.pinned [.data, .data, .data, .sentinel, .sentinel, .listed, .data, .widerDeep, .widerDeep, .widerDeep, .widerDeep] true :=
  OpenClaim.laidByTextAt_later rfl rfl tie noOwnUnsafe
theorem syntaxQueries_row_tie : Rows.syntaxQueriesRow.laidByTextAt .later Tryz.pinned [.data, .data, .data, .sentinel, .sentinel, .listed, .data, .widerDeep, .widerDeep, .widerDeep, .widerDeep] true :=
  OpenClaim.laidByTextAt_later rfl rfl tie noOwnUnsafe
theorem syntaxChecks_row_tie : Rows.syntaxChecksRow.laidByTextAt .later Tryz.pinned [.data, .data, .data, .sentinel, .sentinel, .listed, .data, .widerDeep, .widerDeep, .widerDeep, .widerDeep] true :=
  OpenClaim.laidByTextAt_later rfl rfl tie noOwnUnsafe
theorem syntaxNamesUpto_row_tie : Rows.syntaxNamesUptoRow.laidByTextAt .later Tryz.pinned [.data, .data, .data, .sentinel, .sentinel, .listed, .data, .widerDeep, .widerDeep, .widerDeep, .widerDeep] true :=
  OpenClaim.laidByTextAt_later rfl rfl tie noOwnUnsafe
theorem syntaxParsesUpto_row_tie : Rows.syntaxParsesUptoRow.laidByTextAt .later Tryz.pinned [.data, .data, .data, .sentinel, .sentinel, .listed, .data, .widerDeep, .widerDeep, .widerDeep, .widerDeep] true :=
  OpenClaim.laidByTextAt_later rfl rfl tie noOwnUnsafe
theorem syntaxWordsUpto_row_tie : Rows.syntaxWordsUptoRow.laidByTextAt .later Tryz.pinned [.data, .data, .data, .sentinel, .sentinel, .listed, .data, .widerDeep, .widerDeep, .widerDeep, .widerDeep] true :=
  OpenClaim.laidByTextAt_later rfl rfl tie noOwnUnsafe
theorem syntaxSpacesUpto_row_tie : Rows.syntaxSpacesUptoRow.laidByTextAt .later Tryz.pinned [.data, .data, .data, .sentinel, .sentinel, .listed, .data, .widerDeep, .widerDeep, .widerDeep, .widerDeep] true :=
  OpenClaim.laidByTextAt_later rfl rfl tie noOwnUnsafe
theorem syntaxEndsUpto_row_tie : Rows.syntaxEndsUptoRow.laidByTextAt .later Tryz.pinned [.data, .data, .data, .sentinel, .sentinel, .listed, .data, .widerDeep, .widerDeep, .widerDeep, .widerDeep] true :=
  OpenClaim.laidByTextAt_later rfl rfl tie noOwnUnsafe
theorem syntaxPredsUpto_row_tie : Rows.syntaxPredsUptoRow.laidByTextAt .later Tryz.pinned [.data, .data, .data, .sentinel, .sentinel, .listed, .data, .widerDeep, .widerDeep, .widerDeep, .widerDeep] true :=
  OpenClaim.laidByTextAt_later rfl rfl tie noOwnUnsafe
theorem syntaxRawUpto_row_tie : Rows.syntaxRawUptoRow.laidByTextAt .later Tryz.pinned [.data, .data, .data, .sentinel, .sentinel, .listed, .data, .widerDeep, .widerDeep, .widerDeep, .widerDeep] true :=
  OpenClaim.laidByTextAt_later rfl rfl tie noOwnUnsafe
theorem syntaxTreesUpto_row_tie : Rows.syntaxTreesUptoRow.laidByTextAt .later Tryz.pinned [.data, .data, .data, .sentinel, .sentinel, .listed, .data, .widerDeep, .widerDeep, .widerDeep, .widerDeep] true :=
  OpenClaim.laidByTextAt_later rfl rfl tie noOwnUnsafe
theorem syntaxQueriesUpto_row_tie : Rows.syntaxQueriesUptoRow.laidByTextAt .later Tryz.pinned [.data, .data, .data, .sentinel, .sentinel, .listed, .data, .widerDeep, .widerDeep, .widerDeep, .widerDeep] true :=
  OpenClaim.laidByTextAt_later rfl rfl tie noOwnUnsafe
theorem syntaxChecksUpto_row_tie : Rows.syntaxChecksUptoRow.laidByTextAt .later Tryz.pinned [.data, .data, .data, .sentinel, .sentinel, .listed, .data, .widerDeep, .widerDeep, .widerDeep, .widerDeep] true :=
  OpenClaim.laidByTextAt_later rfl rfl tie noOwnUnsafe
end Go.Proofs.YtfnaahkgegfbnaaGreatDoor
