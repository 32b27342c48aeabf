/-
  DERIVED. GIVEN WITH THE SEED: THE PROGRAM's TIES (one call each: nine closed facts by the kernel) AND EACH ROW's TIE, after the 31st guide's Derived/Test/Toyas{Tie, Card}.lean. No idea stands in it: it is a product of the set-up. Laid BY PROGRAM, IN A SANDBOX (cutbox-door.mjs). By AI agents, Wed Nov 11 2026. No macro, syntax, notation, axiom, sorry.
-/
import Derived.Test.YtknmbfkpclacgaaDoorRows
import Derived.LaidByTextLater
import Derived.SevenTiedAt
import Derived.LaidSub
import Derived.LaidOnce
namespace Go.Proofs.YtknmbfkpclacgaaDoor
open Go
set_option maxRecDepth 100000
theorem seatTie1 : Tryd.prog.laidByTextLater [("math/bits.deBruijn32tab", Rows.laid_math_bits_deBruijn32tab), ("math/bits.deBruijn64tab", Rows.laid_math_bits_deBruijn64tab), ("internal/strconv.uint64pow10", Rows.laid_internal_strconv_uint64pow10), ("galley/step.bad", Rows.laid_galley_step_bad), ("galley/json.short", Rows.laid_galley_json_short), ("galley/json.letters", Rows.laid_galley_json_letters)] [.data, .data, .data, .data, .mapped, .mapped] true :=
  Program.laidByTextLater_by_one 114 8 65 (by kernel_rfl) (by kernel_rfl) (by kernel_rfl) (by kernel_rfl) (by kernel_rfl) (by kernel_rfl) (fun _ _ => by kernel_rfl)
theorem noOwnUnsafe : Tryd.pinned.checked.prog.headLifts.contains "ownunsafe" = false := by kernel_rfl
theorem tie : Tryd.prog.laidByTextLater [("math/bits.deBruijn32tab", Rows.laid_math_bits_deBruijn32tab), ("math/bits.deBruijn64tab", Rows.laid_math_bits_deBruijn64tab), ("internal/strconv.uint64pow10", Rows.laid_internal_strconv_uint64pow10), ("galley/step.bad", Rows.laid_galley_step_bad), ("galley/json.short", Rows.laid_galley_json_short), ("galley/json.letters", Rows.laid_galley_json_letters)] [.data, .data, .data, .data, .mapped, .mapped] true :=
  Program.laidByTextLater.sub seatTie1 ["math/bits.deBruijn32tab", "math/bits.deBruijn64tab", "internal/strconv.uint64pow10", "galley/step.bad", "galley/json.short", "galley/json.letters"] (by kernel_rfl) (by kernel_rfl)
theorem jsonNames_row_tie : Rows.jsonNamesRow.laidByTextAt .later Tryd.pinned [.data, .data, .data, .data, .mapped, .mapped] true :=
  OpenClaim.laidByTextAt_later rfl rfl tie noOwnUnsafe
theorem jsonCut_row_tie : Rows.jsonCutRow.laidByTextAt .later Tryd.pinned [.data, .data, .data, .data, .mapped, .mapped] true :=
  OpenClaim.laidByTextAt_later rfl rfl tie noOwnUnsafe
theorem jsonBlanks_row_tie : Rows.jsonBlanksRow.laidByTextAt .later Tryd.pinned [.data, .data, .data, .data, .mapped, .mapped] true :=
  OpenClaim.laidByTextAt_later rfl rfl tie noOwnUnsafe
theorem jsonLanguage_row_tie : Rows.jsonLanguageRow.laidByTextAt .later Tryd.pinned [.data, .data, .data, .data, .mapped, .mapped] true :=
  OpenClaim.laidByTextAt_later rfl rfl tie noOwnUnsafe
theorem jsonBack_row_tie : Rows.jsonBackRow.laidByTextAt .later Tryd.pinned [.data, .data, .data, .data, .mapped, .mapped] true :=
  OpenClaim.laidByTextAt_later rfl rfl tie noOwnUnsafe
theorem jsonNamesUpto_row_tie : Rows.jsonNamesUptoRow.laidByTextAt .later Tryd.pinned [.data, .data, .data, .data, .mapped, .mapped] true :=
  OpenClaim.laidByTextAt_later rfl rfl tie noOwnUnsafe
theorem jsonCutUpto_row_tie : Rows.jsonCutUptoRow.laidByTextAt .later Tryd.pinned [.data, .data, .data, .data, .mapped, .mapped] true :=
  OpenClaim.laidByTextAt_later rfl rfl tie noOwnUnsafe
theorem jsonBlanksUpto_row_tie : Rows.jsonBlanksUptoRow.laidByTextAt .later Tryd.pinned [.data, .data, .data, .data, .mapped, .mapped] true :=
  OpenClaim.laidByTextAt_later rfl rfl tie noOwnUnsafe
theorem jsonLanguageUpto_row_tie : Rows.jsonLanguageUptoRow.laidByTextAt .later Tryd.pinned [.data, .data, .data, .data, .mapped, .mapped] true :=
  OpenClaim.laidByTextAt_later rfl rfl tie noOwnUnsafe
theorem jsonBackUpto_row_tie : Rows.jsonBackUptoRow.laidByTextAt .later Tryd.pinned [.data, .data, .data, .data, .mapped, .mapped] true :=
  OpenClaim.laidByTextAt_later rfl rfl tie noOwnUnsafe
end Go.Proofs.YtknmbfkpclacgaaDoor
