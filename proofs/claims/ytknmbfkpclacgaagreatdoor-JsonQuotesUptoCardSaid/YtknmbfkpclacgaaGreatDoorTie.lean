/-
  DERIVED. GIVEN WITH THE SEED: THE PROGRAM's TIES (one call each: nine closed facts by the kernel) AND EACH ROW's TIE, after the 31st guide's Derived/Test/Toyas{Tie, Card}.lean. No idea stands in it: it is a product of the set-up. Laid BY PROGRAM, IN A SANDBOX (cutbox-door.mjs). By AI agents, Wed Nov 11 2026. No macro, syntax, notation, axiom, sorry.
-/
import Derived.Test.YtknmbfkpclacgaaGreatDoorRows
import Derived.LaidByTextLater
import Derived.SevenTiedAt
import Derived.LaidSub
import Derived.LaidOnce
namespace Go.Proofs.YtknmbfkpclacgaaGreatDoor
open Go
set_option maxRecDepth 100000
theorem seatTie1 : Tryz.prog.laidByTextLater [("math/bits.deBruijn32tab", Rows.laid_math_bits_deBruijn32tab), ("math/bits.deBruijn64tab", Rows.laid_math_bits_deBruijn64tab), ("internal/strconv.uint64pow10", Rows.laid_internal_strconv_uint64pow10), ("galley/step.bad", Rows.laid_galley_step_bad), ("galley/json.short", Rows.laid_galley_json_short), ("galley/json.letters", Rows.laid_galley_json_letters), ("galley/wire.rulers", Rows.laid_galley_wire_rulers), ("galley/wire.gravities", Rows.laid_galley_wire_gravities)] [.data, .data, .data, .data, .mapped, .mapped, .widerDeep, .widerDeep] true :=
  Program.laidByTextLater_by_one 124 8 65 (by kernel_rfl) (by kernel_rfl) (by kernel_rfl) (by kernel_rfl) (by kernel_rfl) (by kernel_rfl) (fun _ _ => by kernel_rfl)
theorem noOwnUnsafe : Tryz.pinned.checked.prog.headLifts.contains "ownunsafe" = false := by kernel_rfl
theorem tie : Tryz.prog.laidByTextLater [("math/bits.deBruijn32tab", Rows.laid_math_bits_deBruijn32tab), ("math/bits.deBruijn64tab", Rows.laid_math_bits_deBruijn64tab), ("internal/strconv.uint64pow10", Rows.laid_internal_strconv_uint64pow10), ("galley/step.bad", Rows.laid_galley_step_bad), ("galley/json.short", Rows.laid_galley_json_short), ("galley/json.letters", Rows.laid_galley_json_letters)] [.data, .data, .data, .data, .mapped, .mapped] true :=
  Program.laidByTextLater.sub seatTie1 ["math/bits.deBruijn32tab", "math/bits.deBruijn64tab", "internal/strconv.uint64pow10", "galley/step.bad", "galley/json.short", "galley/json.letters"] (by kernel_rfl) (by kernel_rfl)
theorem jsonParses_row_tie : Rows.jsonParsesRow.laidByTextAt .later Tryz.pinned [.data, .data, .data, .data, .mapped, .mapped] true :=
  OpenClaim.laidByTextAt_later rfl rfl tie noOwnUnsafe
theorem jsonTrees_row_tie : Rows.jsonTreesRow.laidByTextAt .later Tryz.pinned [.data, .data, .data, .data, .mapped, .mapped] true :=
  OpenClaim.laidByTextAt_later rfl rfl tie noOwnUnsafe
theorem jsonQuotes_row_tie : Rows.jsonQuotesRow.laidByTextAt .later Tryz.pinned [.data, .data, .data, .data, .mapped, .mapped] true :=
  OpenClaim.laidByTextAt_later rfl rfl tie noOwnUnsafe
theorem jsonSame_row_tie : Rows.jsonSameRow.laidByTextAt .later Tryz.pinned [.data, .data, .data, .data, .mapped, .mapped] true :=
  OpenClaim.laidByTextAt_later rfl rfl tie noOwnUnsafe
theorem jsonMemory_row_tie : Rows.jsonMemoryRow.laidByTextAt .later Tryz.pinned [.data, .data, .data, .data, .mapped, .mapped] true :=
  OpenClaim.laidByTextAt_later rfl rfl tie noOwnUnsafe
theorem tie2 : Tryz.prog.laidByTextLater [("math/bits.deBruijn32tab", Rows.laid_math_bits_deBruijn32tab), ("math/bits.deBruijn64tab", Rows.laid_math_bits_deBruijn64tab), ("internal/strconv.uint64pow10", Rows.laid_internal_strconv_uint64pow10), ("galley/step.bad", Rows.laid_galley_step_bad), ("galley/json.short", Rows.laid_galley_json_short), ("galley/json.letters", Rows.laid_galley_json_letters), ("galley/wire.rulers", Rows.laid_galley_wire_rulers), ("galley/wire.gravities", Rows.laid_galley_wire_gravities)] [.data, .data, .data, .data, .mapped, .mapped, .widerDeep, .widerDeep] true :=
  Program.laidByTextLater.sub seatTie1 ["math/bits.deBruijn32tab", "math/bits.deBruijn64tab", "internal/strconv.uint64pow10", "galley/step.bad", "galley/json.short", "galley/json.letters", "galley/wire.rulers", "galley/wire.gravities"] (by kernel_rfl) (by kernel_rfl)
theorem wireOrder_row_tie : Rows.wireOrderRow.laidByTextAt .later Tryz.pinned [.data, .data, .data, .data, .mapped, .mapped, .widerDeep, .widerDeep] true :=
  OpenClaim.laidByTextAt_later rfl rfl tie2 noOwnUnsafe
theorem wireTexts_row_tie : Rows.wireTextsRow.laidByTextAt .later Tryz.pinned [.data, .data, .data, .data, .mapped, .mapped, .widerDeep, .widerDeep] true :=
  OpenClaim.laidByTextAt_later rfl rfl tie2 noOwnUnsafe
theorem wirePrints_row_tie : Rows.wirePrintsRow.laidByTextAt .later Tryz.pinned [.data, .data, .data, .data, .mapped, .mapped, .widerDeep, .widerDeep] true :=
  OpenClaim.laidByTextAt_later rfl rfl tie2 noOwnUnsafe
theorem wireParses_row_tie : Rows.wireParsesRow.laidByTextAt .later Tryz.pinned [.data, .data, .data, .data, .mapped, .mapped, .widerDeep, .widerDeep] true :=
  OpenClaim.laidByTextAt_later rfl rfl tie2 noOwnUnsafe
theorem wireReplies_row_tie : Rows.wireRepliesRow.laidByTextAt .later Tryz.pinned [.data, .data, .data, .data, .mapped, .mapped, .widerDeep, .widerDeep] true :=
  OpenClaim.laidByTextAt_later rfl rfl tie2 noOwnUnsafe
theorem wireBack_row_tie : Rows.wireBackRow.laidByTextAt .later Tryz.pinned [.data, .data, .data, .data, .mapped, .mapped, .widerDeep, .widerDeep] true :=
  OpenClaim.laidByTextAt_later rfl rfl tie2 noOwnUnsafe
theorem wireOwn_row_tie : Rows.wireOwnRow.laidByTextAt .later Tryz.pinned [.data, .data, .data, .data, .mapped, .mapped, .widerDeep, .widerDeep] true :=
  OpenClaim.laidByTextAt_later rfl rfl tie2 noOwnUnsafe
theorem wireHears_row_tie : Rows.wireHearsRow.laidByTextAt .later Tryz.pinned [.data, .data, .data, .data, .mapped, .mapped, .widerDeep, .widerDeep] true :=
  OpenClaim.laidByTextAt_later rfl rfl tie2 noOwnUnsafe
theorem wireAnswers_row_tie : Rows.wireAnswersRow.laidByTextAt .later Tryz.pinned [.data, .data, .data, .data, .mapped, .mapped, .widerDeep, .widerDeep] true :=
  OpenClaim.laidByTextAt_later rfl rfl tie2 noOwnUnsafe
theorem jsonParsesUpto_row_tie : Rows.jsonParsesUptoRow.laidByTextAt .later Tryz.pinned [.data, .data, .data, .data, .mapped, .mapped] true :=
  OpenClaim.laidByTextAt_later rfl rfl tie noOwnUnsafe
theorem jsonTreesUpto_row_tie : Rows.jsonTreesUptoRow.laidByTextAt .later Tryz.pinned [.data, .data, .data, .data, .mapped, .mapped] true :=
  OpenClaim.laidByTextAt_later rfl rfl tie noOwnUnsafe
theorem jsonQuotesUpto_row_tie : Rows.jsonQuotesUptoRow.laidByTextAt .later Tryz.pinned [.data, .data, .data, .data, .mapped, .mapped] true :=
  OpenClaim.laidByTextAt_later rfl rfl tie noOwnUnsafe
theorem wireOrderUpto_row_tie : Rows.wireOrderUptoRow.laidByTextAt .later Tryz.pinned [.data, .data, .data, .data, .mapped, .mapped, .widerDeep, .widerDeep] true :=
  OpenClaim.laidByTextAt_later rfl rfl tie2 noOwnUnsafe
theorem wireTextsUpto_row_tie : Rows.wireTextsUptoRow.laidByTextAt .later Tryz.pinned [.data, .data, .data, .data, .mapped, .mapped, .widerDeep, .widerDeep] true :=
  OpenClaim.laidByTextAt_later rfl rfl tie2 noOwnUnsafe
theorem jsonSameUpto_row_tie : Rows.jsonSameUptoRow.laidByTextAt .later Tryz.pinned [.data, .data, .data, .data, .mapped, .mapped] true :=
  OpenClaim.laidByTextAt_later rfl rfl tie noOwnUnsafe
theorem jsonMemoryUpto_row_tie : Rows.jsonMemoryUptoRow.laidByTextAt .later Tryz.pinned [.data, .data, .data, .data, .mapped, .mapped] true :=
  OpenClaim.laidByTextAt_later rfl rfl tie noOwnUnsafe
theorem wirePrintsUpto_row_tie : Rows.wirePrintsUptoRow.laidByTextAt .later Tryz.pinned [.data, .data, .data, .data, .mapped, .mapped, .widerDeep, .widerDeep] true :=
  OpenClaim.laidByTextAt_later rfl rfl tie2 noOwnUnsafe
theorem wireParsesUpto_row_tie : Rows.wireParsesUptoRow.laidByTextAt .later Tryz.pinned [.data, .data, .data, .data, .mapped, .mapped, .widerDeep, .widerDeep] true :=
  OpenClaim.laidByTextAt_later rfl rfl tie2 noOwnUnsafe
theorem wireRepliesUpto_row_tie : Rows.wireRepliesUptoRow.laidByTextAt .later Tryz.pinned [.data, .data, .data, .data, .mapped, .mapped, .widerDeep, .widerDeep] true :=
  OpenClaim.laidByTextAt_later rfl rfl tie2 noOwnUnsafe
theorem wireBackUpto_row_tie : Rows.wireBackUptoRow.laidByTextAt .later Tryz.pinned [.data, .data, .data, .data, .mapped, .mapped, .widerDeep, .widerDeep] true :=
  OpenClaim.laidByTextAt_later rfl rfl tie2 noOwnUnsafe
theorem wireOwnUpto_row_tie : Rows.wireOwnUptoRow.laidByTextAt .later Tryz.pinned [.data, .data, .data, .data, .mapped, .mapped, .widerDeep, .widerDeep] true :=
  OpenClaim.laidByTextAt_later rfl rfl tie2 noOwnUnsafe
theorem wireHearsUpto_row_tie : Rows.wireHearsUptoRow.laidByTextAt .later Tryz.pinned [.data, .data, .data, .data, .mapped, .mapped, .widerDeep, .widerDeep] true :=
  OpenClaim.laidByTextAt_later rfl rfl tie2 noOwnUnsafe
theorem wireAnswersUpto_row_tie : Rows.wireAnswersUptoRow.laidByTextAt .later Tryz.pinned [.data, .data, .data, .data, .mapped, .mapped, .widerDeep, .widerDeep] true :=
  OpenClaim.laidByTextAt_later rfl rfl tie2 noOwnUnsafe
end Go.Proofs.YtknmbfkpclacgaaGreatDoor
