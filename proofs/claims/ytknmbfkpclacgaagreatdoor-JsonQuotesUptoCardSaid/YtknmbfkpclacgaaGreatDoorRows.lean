/-
  NARROWER THAN 'FOR EVERY INPUT', by the rows' own cells (each row's printed sentence says how): JsonParses: laid · JsonTrees: laid · JsonQuotes: laid · WireOrder: laid · WireTexts: laid · JsonSame: laid · JsonMemory: laid · WirePrints: laid · WireParses: laid · WireReplies: laid · WireBack: laid · WireOwn: laid · WireHears: laid · WireAnswers: laid.
  DERIVED. THE GIVEN ROWS OF THIS SEAT. 14 by the template 'for every input the law returns true; each argument reads behind the call as it read before'; 0 by the template 'total and deterministic' (their statements: YtknmbfkpclacgaaGreatDoorTotals.lean).
  GIVEN WITH THE SEED: the statements are not yours to turn. If you find one false, say at which input.
  Laid BY PROGRAM, IN A SANDBOX (cutbox-rows.mjs): the forced cells as the released guide's own fill.sh prints them over the translation 999506ec02b3cbe5… (all of the seat's roots in one cut). By AI agents, Wed Nov 11 2026. No macro, syntax, notation, axiom, sorry.
-/
import Derived.Test.YtknmbfkpclacgaaGreatDoorChecked
import GoSem.Claim
import GoSem.ClaimJoined
import GoSem.ClaimMapViews
import Derived.JoinedTies
import Derived.KernelRfl
namespace Go.Proofs.YtknmbfkpclacgaaGreatDoor
/- THE CELL 'sum', in the pinned program and in every row, IS THE sha256 OF THE DUMP (.gsa) THAT YtknmbfkpclacgaaGreatDoorProg.lean LOADS. Nothing in Lean hashes anything: it is a label: what it is worth is what the hold of that sum in a sandbox is worth. -/
noncomputable def Tryz.pinned : Pinned := { name := "ytknmbfkpclacgaagreatdoor", sum := "999506ec02b3cbe5bf4e4936d196bc967c2a2c9a7c4351ff60f7aeafe0471dad", checked := Tryz.checked }
namespace Rows
def none {H : Type} : Left H := { results := [], args := [] }

/- WHAT THE LISTED PACKAGE-LEVEL VARIABLES READ AS WHEN THE CALL BEGINS. Each datum BY PROGRAM (the guide's laid-datum.mjs) off the statement by which the dump's own 'gosem.cut.vars' lays the variable. In a bare row this is a premise. The card (YtknmbfkpclacgaaGreatDoorCards.lean) ties it to the program's text. -/
def laid_math_bits_deBruijn32tab {H : Type} : DataW H := .agg [.lit (.int .u8 0), .lit (.int .u8 1), .lit (.int .u8 28), .lit (.int .u8 2), .lit (.int .u8 29), .lit (.int .u8 14), .lit (.int .u8 24), .lit (.int .u8 3), .lit (.int .u8 30), .lit (.int .u8 22), .lit (.int .u8 20), .lit (.int .u8 15), .lit (.int .u8 25), .lit (.int .u8 17), .lit (.int .u8 4), .lit (.int .u8 8), .lit (.int .u8 31), .lit (.int .u8 27), .lit (.int .u8 13), .lit (.int .u8 23), .lit (.int .u8 21), .lit (.int .u8 19), .lit (.int .u8 16), .lit (.int .u8 7), .lit (.int .u8 26), .lit (.int .u8 12), .lit (.int .u8 18), .lit (.int .u8 6), .lit (.int .u8 11), .lit (.int .u8 5), .lit (.int .u8 10), .lit (.int .u8 9)]
def laid_math_bits_deBruijn64tab {H : Type} : DataW H := .agg [.lit (.int .u8 0), .lit (.int .u8 1), .lit (.int .u8 56), .lit (.int .u8 2), .lit (.int .u8 57), .lit (.int .u8 49), .lit (.int .u8 28), .lit (.int .u8 3), .lit (.int .u8 61), .lit (.int .u8 58), .lit (.int .u8 42), .lit (.int .u8 50), .lit (.int .u8 38), .lit (.int .u8 29), .lit (.int .u8 17), .lit (.int .u8 4), .lit (.int .u8 62), .lit (.int .u8 47), .lit (.int .u8 59), .lit (.int .u8 36), .lit (.int .u8 45), .lit (.int .u8 43), .lit (.int .u8 51), .lit (.int .u8 22), .lit (.int .u8 53), .lit (.int .u8 39), .lit (.int .u8 33), .lit (.int .u8 30), .lit (.int .u8 24), .lit (.int .u8 18), .lit (.int .u8 12), .lit (.int .u8 5), .lit (.int .u8 63), .lit (.int .u8 55), .lit (.int .u8 48), .lit (.int .u8 27), .lit (.int .u8 60), .lit (.int .u8 41), .lit (.int .u8 37), .lit (.int .u8 16), .lit (.int .u8 46), .lit (.int .u8 35), .lit (.int .u8 44), .lit (.int .u8 21), .lit (.int .u8 52), .lit (.int .u8 32), .lit (.int .u8 23), .lit (.int .u8 11), .lit (.int .u8 54), .lit (.int .u8 26), .lit (.int .u8 40), .lit (.int .u8 15), .lit (.int .u8 34), .lit (.int .u8 20), .lit (.int .u8 31), .lit (.int .u8 10), .lit (.int .u8 25), .lit (.int .u8 14), .lit (.int .u8 19), .lit (.int .u8 9), .lit (.int .u8 13), .lit (.int .u8 8), .lit (.int .u8 7), .lit (.int .u8 6)]
def laid_internal_strconv_uint64pow10 {H : Type} : DataW H := .agg [.lit (.int .u64 1), .lit (.int .u64 10), .lit (.int .u64 100), .lit (.int .u64 1000), .lit (.int .u64 10000), .lit (.int .u64 100000), .lit (.int .u64 1000000), .lit (.int .u64 10000000), .lit (.int .u64 100000000), .lit (.int .u64 1000000000), .lit (.int .u64 10000000000), .lit (.int .u64 100000000000), .lit (.int .u64 1000000000000), .lit (.int .u64 10000000000000), .lit (.int .u64 100000000000000), .lit (.int .u64 1000000000000000), .lit (.int .u64 10000000000000000), .lit (.int .u64 100000000000000000), .lit (.int .u64 1000000000000000000), .lit (.int .u64 10000000000000000000)]
def laid_galley_step_bad {H : Type} : DataW H := .agg [.lit (.int .i32 65533), .lit (.int .i64 1), .lit (.bool false)]
def laid_galley_json_short {H : Type} : DataW H := .map [(.int .i32 8, .lit (.string [92, 98])), (.int .i32 9, .lit (.string [92, 116])), (.int .i32 10, .lit (.string [92, 110])), (.int .i32 12, .lit (.string [92, 102])), (.int .i32 13, .lit (.string [92, 114])), (.int .i32 34, .lit (.string [92, 34])), (.int .i32 92, .lit (.string [92, 92]))]
def laid_galley_json_letters {H : Type} : DataW H := .map [(.int .u8 34, .lit (.int .i32 34)), (.int .u8 47, .lit (.int .i32 47)), (.int .u8 92, .lit (.int .i32 92)), (.int .u8 98, .lit (.int .i32 8)), (.int .u8 102, .lit (.int .i32 12)), (.int .u8 110, .lit (.int .i32 10)), (.int .u8 114, .lit (.int .i32 13)), (.int .u8 116, .lit (.int .i32 9))]
def laid_galley_wire_rulers {H : Type} : DataW H := .slice [.lit (.string [98, 121, 116, 101, 115]), .lit (.string [114, 117, 110, 101, 115]), .lit (.string [117, 110, 105, 116, 115])] []
def laid_galley_wire_gravities {H : Type} : DataW H := .slice [.lit (.string [108, 101, 102, 116]), .lit (.string [114, 105, 103, 104, 116])] []

/-- 'galleylaw24.JsonParses': WHATEVER THE INPUT: true; the input reads as it did. -/
def jsonParsesSpec : ChangeSpec := { name := "jsonParses", fn := fun _ => fun
  | [d] => { results := [.lit (.bool true)], args := [d] }
  | _ => none }
def jsonParsesRow : OpenClaim := { program := "ytknmbfkpclacgaagreatdoor", sum := "999506ec02b3cbe5bf4e4936d196bc967c2a2c9a7c4351ff60f7aeafe0471dad", func := "galley/galleylaw24.JsonParses", spec := "jsonParses", inPlace := ["internal/abi.NoEscape"], unfollowed := true, recurses := true, named := ["galley/json.letters", "galley/step.bad", "internal/strconv.uint64pow10", "math/bits.deBruijn32tab", "math/bits.deBruijn64tab", "galley/json.short"], apart := false, laid := [("math/bits.deBruijn32tab", laid_math_bits_deBruijn32tab), ("math/bits.deBruijn64tab", laid_math_bits_deBruijn64tab), ("internal/strconv.uint64pow10", laid_internal_strconv_uint64pow10), ("galley/step.bad", laid_galley_step_bad), ("galley/json.short", laid_galley_json_short), ("galley/json.letters", laid_galley_json_letters)] }
def JsonParsesSaid : Prop := jsonParsesRow.holds Tryz.pinned (OpenSpec.ofChange jsonParsesSpec)

/-- ITS FALSE NEIGHBOUR: 'it returns false'. Refute it at one input. -/
def jsonParsesWrong : ChangeSpec := { name := "jsonParses", fn := fun _ => fun
  | [d] => { results := [.lit (.bool false)], args := [d] }
  | _ => none }
def JsonParsesWrongFalsely : Prop := jsonParsesRow.holds Tryz.pinned (OpenSpec.ofChange jsonParsesWrong)

/-- 'galleylaw24.JsonTrees': WHATEVER THE INPUT: true; the input reads as it did. -/
def jsonTreesSpec : ChangeSpec := { name := "jsonTrees", fn := fun _ => fun
  | [d1, d2, d3] => { results := [.lit (.bool true)], args := [d1, d2, d3] }
  | _ => none }
def jsonTreesRow : OpenClaim := { program := "ytknmbfkpclacgaagreatdoor", sum := "999506ec02b3cbe5bf4e4936d196bc967c2a2c9a7c4351ff60f7aeafe0471dad", func := "galley/galleylaw24.JsonTrees", spec := "jsonTrees", inPlace := ["internal/abi.NoEscape"], unfollowed := true, recurses := true, named := ["galley/json.letters", "galley/step.bad", "internal/strconv.uint64pow10", "math/bits.deBruijn32tab", "math/bits.deBruijn64tab", "galley/json.short"], apart := false, laid := [("math/bits.deBruijn32tab", laid_math_bits_deBruijn32tab), ("math/bits.deBruijn64tab", laid_math_bits_deBruijn64tab), ("internal/strconv.uint64pow10", laid_internal_strconv_uint64pow10), ("galley/step.bad", laid_galley_step_bad), ("galley/json.short", laid_galley_json_short), ("galley/json.letters", laid_galley_json_letters)] }
def JsonTreesSaid : Prop := jsonTreesRow.holds Tryz.pinned (OpenSpec.ofChange jsonTreesSpec)

/-- ITS FALSE NEIGHBOUR: 'it returns false'. Refute it at one input. -/
def jsonTreesWrong : ChangeSpec := { name := "jsonTrees", fn := fun _ => fun
  | [d1, d2, d3] => { results := [.lit (.bool false)], args := [d1, d2, d3] }
  | _ => none }
def JsonTreesWrongFalsely : Prop := jsonTreesRow.holds Tryz.pinned (OpenSpec.ofChange jsonTreesWrong)

/-- 'galleylaw24.JsonQuotes': WHATEVER THE INPUT: true; the input reads as it did. -/
def jsonQuotesSpec : ChangeSpec := { name := "jsonQuotes", fn := fun _ => fun
  | [d1, d2] => { results := [.lit (.bool true)], args := [d1, d2] }
  | _ => none }
def jsonQuotesRow : OpenClaim := { program := "ytknmbfkpclacgaagreatdoor", sum := "999506ec02b3cbe5bf4e4936d196bc967c2a2c9a7c4351ff60f7aeafe0471dad", func := "galley/galleylaw24.JsonQuotes", spec := "jsonQuotes", inPlace := ["internal/abi.NoEscape"], unfollowed := true, recurses := true, named := ["galley/json.letters", "galley/step.bad", "internal/strconv.uint64pow10", "math/bits.deBruijn32tab", "math/bits.deBruijn64tab", "galley/json.short"], apart := false, laid := [("math/bits.deBruijn32tab", laid_math_bits_deBruijn32tab), ("math/bits.deBruijn64tab", laid_math_bits_deBruijn64tab), ("internal/strconv.uint64pow10", laid_internal_strconv_uint64pow10), ("galley/step.bad", laid_galley_step_bad), ("galley/json.short", laid_galley_json_short), ("galley/json.letters", laid_galley_json_letters)] }
def JsonQuotesSaid : Prop := jsonQuotesRow.holds Tryz.pinned (OpenSpec.ofChange jsonQuotesSpec)

/-- ITS FALSE NEIGHBOUR: 'it returns false'. Refute it at one input. -/
def jsonQuotesWrong : ChangeSpec := { name := "jsonQuotes", fn := fun _ => fun
  | [d1, d2] => { results := [.lit (.bool false)], args := [d1, d2] }
  | _ => none }
def JsonQuotesWrongFalsely : Prop := jsonQuotesRow.holds Tryz.pinned (OpenSpec.ofChange jsonQuotesWrong)

/-- 'galleylaw26.WireOrder': WHATEVER THE INPUT: true; the input reads as it did. -/
def wireOrderSpec : ChangeSpec := { name := "wireOrder", fn := fun _ => fun
  | [d1, d2, d3] => { results := [.lit (.bool true)], args := [d1, d2, d3] }
  | _ => none }
def wireOrderRow : OpenClaim := { program := "ytknmbfkpclacgaagreatdoor", sum := "999506ec02b3cbe5bf4e4936d196bc967c2a2c9a7c4351ff60f7aeafe0471dad", func := "galley/galleylaw26.WireOrder", spec := "wireOrder", inPlace := ["internal/bytealg.IndexByteString", "internal/abi.NoEscape"], unfollowed := true, recurses := true, named := ["galley/wire.rulers", "galley/wire.gravities", "internal/strconv.uint64pow10", "math/bits.deBruijn32tab", "math/bits.deBruijn64tab", "galley/json.short", "galley/json.letters", "galley/step.bad"], apart := false, laid := [("math/bits.deBruijn32tab", laid_math_bits_deBruijn32tab), ("math/bits.deBruijn64tab", laid_math_bits_deBruijn64tab), ("internal/strconv.uint64pow10", laid_internal_strconv_uint64pow10), ("galley/step.bad", laid_galley_step_bad), ("galley/json.short", laid_galley_json_short), ("galley/json.letters", laid_galley_json_letters), ("galley/wire.rulers", laid_galley_wire_rulers), ("galley/wire.gravities", laid_galley_wire_gravities)] }
def WireOrderSaid : Prop := wireOrderRow.holds Tryz.pinned (OpenSpec.ofChange wireOrderSpec)

/-- ITS FALSE NEIGHBOUR: 'it returns false'. Refute it at one input. -/
def wireOrderWrong : ChangeSpec := { name := "wireOrder", fn := fun _ => fun
  | [d1, d2, d3] => { results := [.lit (.bool false)], args := [d1, d2, d3] }
  | _ => none }
def WireOrderWrongFalsely : Prop := wireOrderRow.holds Tryz.pinned (OpenSpec.ofChange wireOrderWrong)

/-- 'galleylaw26.WireTexts': WHATEVER THE INPUT: true; the input reads as it did. -/
def wireTextsSpec : ChangeSpec := { name := "wireTexts", fn := fun _ => fun
  | [d1, d2] => { results := [.lit (.bool true)], args := [d1, d2] }
  | _ => none }
def wireTextsRow : OpenClaim := { program := "ytknmbfkpclacgaagreatdoor", sum := "999506ec02b3cbe5bf4e4936d196bc967c2a2c9a7c4351ff60f7aeafe0471dad", func := "galley/galleylaw26.WireTexts", spec := "wireTexts", inPlace := ["internal/bytealg.IndexByteString", "internal/abi.NoEscape"], unfollowed := true, recurses := true, named := ["galley/wire.rulers", "galley/wire.gravities", "internal/strconv.uint64pow10", "math/bits.deBruijn32tab", "math/bits.deBruijn64tab", "galley/json.short", "galley/json.letters", "galley/step.bad"], apart := false, laid := [("math/bits.deBruijn32tab", laid_math_bits_deBruijn32tab), ("math/bits.deBruijn64tab", laid_math_bits_deBruijn64tab), ("internal/strconv.uint64pow10", laid_internal_strconv_uint64pow10), ("galley/step.bad", laid_galley_step_bad), ("galley/json.short", laid_galley_json_short), ("galley/json.letters", laid_galley_json_letters), ("galley/wire.rulers", laid_galley_wire_rulers), ("galley/wire.gravities", laid_galley_wire_gravities)] }
def WireTextsSaid : Prop := wireTextsRow.holds Tryz.pinned (OpenSpec.ofChange wireTextsSpec)

/-- ITS FALSE NEIGHBOUR: 'it returns false'. Refute it at one input. -/
def wireTextsWrong : ChangeSpec := { name := "wireTexts", fn := fun _ => fun
  | [d1, d2] => { results := [.lit (.bool false)], args := [d1, d2] }
  | _ => none }
def WireTextsWrongFalsely : Prop := wireTextsRow.holds Tryz.pinned (OpenSpec.ofChange wireTextsWrong)

/-- 'galleylaw24.JsonSame': WHATEVER THE INPUT: true; the input reads as it did. -/
def jsonSameSpec : ChangeSpec := { name := "jsonSame", fn := fun _ => fun
  | [d1, d2] => { results := [.lit (.bool true)], args := [d1, d2] }
  | _ => none }
def jsonSameRow : OpenClaim := { program := "ytknmbfkpclacgaagreatdoor", sum := "999506ec02b3cbe5bf4e4936d196bc967c2a2c9a7c4351ff60f7aeafe0471dad", func := "galley/galleylaw24.JsonSame", spec := "jsonSame", inPlace := ["internal/abi.NoEscape"], unfollowed := true, recurses := true, named := ["galley/json.letters", "galley/step.bad", "internal/strconv.uint64pow10", "math/bits.deBruijn32tab", "math/bits.deBruijn64tab", "galley/json.short"], apart := false, laid := [("math/bits.deBruijn32tab", laid_math_bits_deBruijn32tab), ("math/bits.deBruijn64tab", laid_math_bits_deBruijn64tab), ("internal/strconv.uint64pow10", laid_internal_strconv_uint64pow10), ("galley/step.bad", laid_galley_step_bad), ("galley/json.short", laid_galley_json_short), ("galley/json.letters", laid_galley_json_letters)] }
def JsonSameSaid : Prop := jsonSameRow.holds Tryz.pinned (OpenSpec.ofChange jsonSameSpec)

/-- ITS FALSE NEIGHBOUR: 'it returns false'. Refute it at one input. -/
def jsonSameWrong : ChangeSpec := { name := "jsonSame", fn := fun _ => fun
  | [d1, d2] => { results := [.lit (.bool false)], args := [d1, d2] }
  | _ => none }
def JsonSameWrongFalsely : Prop := jsonSameRow.holds Tryz.pinned (OpenSpec.ofChange jsonSameWrong)

/-- 'galleylaw24.JsonMemory': WHATEVER THE INPUT: true; the input reads as it did. -/
def jsonMemorySpec : ChangeSpec := { name := "jsonMemory", fn := fun _ => fun
  | [d1, d2] => { results := [.lit (.bool true)], args := [d1, d2] }
  | _ => none }
def jsonMemoryRow : OpenClaim := { program := "ytknmbfkpclacgaagreatdoor", sum := "999506ec02b3cbe5bf4e4936d196bc967c2a2c9a7c4351ff60f7aeafe0471dad", func := "galley/galleylaw24.JsonMemory", spec := "jsonMemory", inPlace := ["internal/abi.NoEscape"], unfollowed := true, recurses := true, named := ["galley/json.letters", "galley/step.bad", "internal/strconv.uint64pow10", "math/bits.deBruijn32tab", "math/bits.deBruijn64tab", "galley/json.short"], apart := false, laid := [("math/bits.deBruijn32tab", laid_math_bits_deBruijn32tab), ("math/bits.deBruijn64tab", laid_math_bits_deBruijn64tab), ("internal/strconv.uint64pow10", laid_internal_strconv_uint64pow10), ("galley/step.bad", laid_galley_step_bad), ("galley/json.short", laid_galley_json_short), ("galley/json.letters", laid_galley_json_letters)] }
def JsonMemorySaid : Prop := jsonMemoryRow.holds Tryz.pinned (OpenSpec.ofChange jsonMemorySpec)

/-- ITS FALSE NEIGHBOUR: 'it returns false'. Refute it at one input. -/
def jsonMemoryWrong : ChangeSpec := { name := "jsonMemory", fn := fun _ => fun
  | [d1, d2] => { results := [.lit (.bool false)], args := [d1, d2] }
  | _ => none }
def JsonMemoryWrongFalsely : Prop := jsonMemoryRow.holds Tryz.pinned (OpenSpec.ofChange jsonMemoryWrong)

/-- 'galleylaw26.WirePrints': WHATEVER THE INPUT: true; the input reads as it did. -/
def wirePrintsSpec : ChangeSpec := { name := "wirePrints", fn := fun _ => fun
  | [d] => { results := [.lit (.bool true)], args := [d] }
  | _ => none }
def wirePrintsRow : OpenClaim := { program := "ytknmbfkpclacgaagreatdoor", sum := "999506ec02b3cbe5bf4e4936d196bc967c2a2c9a7c4351ff60f7aeafe0471dad", func := "galley/galleylaw26.WirePrints", spec := "wirePrints", inPlace := ["internal/bytealg.IndexByteString", "internal/abi.NoEscape"], unfollowed := true, recurses := true, named := ["galley/wire.rulers", "galley/wire.gravities", "internal/strconv.uint64pow10", "math/bits.deBruijn32tab", "math/bits.deBruijn64tab", "galley/json.short", "galley/json.letters", "galley/step.bad"], apart := false, laid := [("math/bits.deBruijn32tab", laid_math_bits_deBruijn32tab), ("math/bits.deBruijn64tab", laid_math_bits_deBruijn64tab), ("internal/strconv.uint64pow10", laid_internal_strconv_uint64pow10), ("galley/step.bad", laid_galley_step_bad), ("galley/json.short", laid_galley_json_short), ("galley/json.letters", laid_galley_json_letters), ("galley/wire.rulers", laid_galley_wire_rulers), ("galley/wire.gravities", laid_galley_wire_gravities)] }
def WirePrintsSaid : Prop := wirePrintsRow.holds Tryz.pinned (OpenSpec.ofChange wirePrintsSpec)

/-- ITS FALSE NEIGHBOUR: 'it returns false'. Refute it at one input. -/
def wirePrintsWrong : ChangeSpec := { name := "wirePrints", fn := fun _ => fun
  | [d] => { results := [.lit (.bool false)], args := [d] }
  | _ => none }
def WirePrintsWrongFalsely : Prop := wirePrintsRow.holds Tryz.pinned (OpenSpec.ofChange wirePrintsWrong)

/-- 'galleylaw26.WireParses': WHATEVER THE INPUT: true; the input reads as it did. -/
def wireParsesSpec : ChangeSpec := { name := "wireParses", fn := fun _ => fun
  | [d] => { results := [.lit (.bool true)], args := [d] }
  | _ => none }
def wireParsesRow : OpenClaim := { program := "ytknmbfkpclacgaagreatdoor", sum := "999506ec02b3cbe5bf4e4936d196bc967c2a2c9a7c4351ff60f7aeafe0471dad", func := "galley/galleylaw26.WireParses", spec := "wireParses", inPlace := ["internal/bytealg.IndexByteString", "internal/abi.NoEscape"], unfollowed := true, recurses := true, named := ["galley/wire.rulers", "galley/wire.gravities", "internal/strconv.uint64pow10", "math/bits.deBruijn32tab", "math/bits.deBruijn64tab", "galley/json.short", "galley/json.letters", "galley/step.bad"], apart := false, laid := [("math/bits.deBruijn32tab", laid_math_bits_deBruijn32tab), ("math/bits.deBruijn64tab", laid_math_bits_deBruijn64tab), ("internal/strconv.uint64pow10", laid_internal_strconv_uint64pow10), ("galley/step.bad", laid_galley_step_bad), ("galley/json.short", laid_galley_json_short), ("galley/json.letters", laid_galley_json_letters), ("galley/wire.rulers", laid_galley_wire_rulers), ("galley/wire.gravities", laid_galley_wire_gravities)] }
def WireParsesSaid : Prop := wireParsesRow.holds Tryz.pinned (OpenSpec.ofChange wireParsesSpec)

/-- ITS FALSE NEIGHBOUR: 'it returns false'. Refute it at one input. -/
def wireParsesWrong : ChangeSpec := { name := "wireParses", fn := fun _ => fun
  | [d] => { results := [.lit (.bool false)], args := [d] }
  | _ => none }
def WireParsesWrongFalsely : Prop := wireParsesRow.holds Tryz.pinned (OpenSpec.ofChange wireParsesWrong)

/-- 'galleylaw26.WireReplies': WHATEVER THE INPUT: true; the input reads as it did. -/
def wireRepliesSpec : ChangeSpec := { name := "wireReplies", fn := fun _ => fun
  | [d1, d2] => { results := [.lit (.bool true)], args := [d1, d2] }
  | _ => none }
def wireRepliesRow : OpenClaim := { program := "ytknmbfkpclacgaagreatdoor", sum := "999506ec02b3cbe5bf4e4936d196bc967c2a2c9a7c4351ff60f7aeafe0471dad", func := "galley/galleylaw26.WireReplies", spec := "wireReplies", inPlace := ["internal/bytealg.IndexByteString", "internal/abi.NoEscape"], unfollowed := true, recurses := true, named := ["galley/wire.rulers", "galley/wire.gravities", "internal/strconv.uint64pow10", "math/bits.deBruijn32tab", "math/bits.deBruijn64tab", "galley/json.short", "galley/json.letters", "galley/step.bad"], apart := false, laid := [("math/bits.deBruijn32tab", laid_math_bits_deBruijn32tab), ("math/bits.deBruijn64tab", laid_math_bits_deBruijn64tab), ("internal/strconv.uint64pow10", laid_internal_strconv_uint64pow10), ("galley/step.bad", laid_galley_step_bad), ("galley/json.short", laid_galley_json_short), ("galley/json.letters", laid_galley_json_letters), ("galley/wire.rulers", laid_galley_wire_rulers), ("galley/wire.gravities", laid_galley_wire_gravities)] }
def WireRepliesSaid : Prop := wireRepliesRow.holds Tryz.pinned (OpenSpec.ofChange wireRepliesSpec)

/-- ITS FALSE NEIGHBOUR: 'it returns false'. Refute it at one input. -/
def wireRepliesWrong : ChangeSpec := { name := "wireReplies", fn := fun _ => fun
  | [d1, d2] => { results := [.lit (.bool false)], args := [d1, d2] }
  | _ => none }
def WireRepliesWrongFalsely : Prop := wireRepliesRow.holds Tryz.pinned (OpenSpec.ofChange wireRepliesWrong)

/-- 'galleylaw26.WireBack': WHATEVER THE INPUT: true; the input reads as it did. -/
def wireBackSpec : ChangeSpec := { name := "wireBack", fn := fun _ => fun
  | [d1, d2] => { results := [.lit (.bool true)], args := [d1, d2] }
  | _ => none }
def wireBackRow : OpenClaim := { program := "ytknmbfkpclacgaagreatdoor", sum := "999506ec02b3cbe5bf4e4936d196bc967c2a2c9a7c4351ff60f7aeafe0471dad", func := "galley/galleylaw26.WireBack", spec := "wireBack", inPlace := ["internal/bytealg.IndexByteString", "internal/abi.NoEscape"], unfollowed := true, recurses := true, named := ["galley/wire.rulers", "galley/wire.gravities", "internal/strconv.uint64pow10", "math/bits.deBruijn32tab", "math/bits.deBruijn64tab", "galley/json.short", "galley/json.letters", "galley/step.bad"], apart := false, laid := [("math/bits.deBruijn32tab", laid_math_bits_deBruijn32tab), ("math/bits.deBruijn64tab", laid_math_bits_deBruijn64tab), ("internal/strconv.uint64pow10", laid_internal_strconv_uint64pow10), ("galley/step.bad", laid_galley_step_bad), ("galley/json.short", laid_galley_json_short), ("galley/json.letters", laid_galley_json_letters), ("galley/wire.rulers", laid_galley_wire_rulers), ("galley/wire.gravities", laid_galley_wire_gravities)] }
def WireBackSaid : Prop := wireBackRow.holds Tryz.pinned (OpenSpec.ofChange wireBackSpec)

/-- ITS FALSE NEIGHBOUR: 'it returns false'. Refute it at one input. -/
def wireBackWrong : ChangeSpec := { name := "wireBack", fn := fun _ => fun
  | [d1, d2] => { results := [.lit (.bool false)], args := [d1, d2] }
  | _ => none }
def WireBackWrongFalsely : Prop := wireBackRow.holds Tryz.pinned (OpenSpec.ofChange wireBackWrong)

/-- 'galleylaw26.WireOwn': WHATEVER THE INPUT: true; the input reads as it did. -/
def wireOwnSpec : ChangeSpec := { name := "wireOwn", fn := fun _ => fun
  | [d1, d2] => { results := [.lit (.bool true)], args := [d1, d2] }
  | _ => none }
def wireOwnRow : OpenClaim := { program := "ytknmbfkpclacgaagreatdoor", sum := "999506ec02b3cbe5bf4e4936d196bc967c2a2c9a7c4351ff60f7aeafe0471dad", func := "galley/galleylaw26.WireOwn", spec := "wireOwn", inPlace := ["internal/bytealg.IndexByteString", "internal/abi.NoEscape"], unfollowed := true, recurses := true, named := ["galley/wire.rulers", "galley/wire.gravities", "internal/strconv.uint64pow10", "math/bits.deBruijn32tab", "math/bits.deBruijn64tab", "galley/json.short", "galley/json.letters", "galley/step.bad"], apart := false, laid := [("math/bits.deBruijn32tab", laid_math_bits_deBruijn32tab), ("math/bits.deBruijn64tab", laid_math_bits_deBruijn64tab), ("internal/strconv.uint64pow10", laid_internal_strconv_uint64pow10), ("galley/step.bad", laid_galley_step_bad), ("galley/json.short", laid_galley_json_short), ("galley/json.letters", laid_galley_json_letters), ("galley/wire.rulers", laid_galley_wire_rulers), ("galley/wire.gravities", laid_galley_wire_gravities)] }
def WireOwnSaid : Prop := wireOwnRow.holds Tryz.pinned (OpenSpec.ofChange wireOwnSpec)

/-- ITS FALSE NEIGHBOUR: 'it returns false'. Refute it at one input. -/
def wireOwnWrong : ChangeSpec := { name := "wireOwn", fn := fun _ => fun
  | [d1, d2] => { results := [.lit (.bool false)], args := [d1, d2] }
  | _ => none }
def WireOwnWrongFalsely : Prop := wireOwnRow.holds Tryz.pinned (OpenSpec.ofChange wireOwnWrong)

/-- 'galleylaw26.WireHears': WHATEVER THE INPUT: true; the input reads as it did. -/
def wireHearsSpec : ChangeSpec := { name := "wireHears", fn := fun _ => fun
  | [d1, d2] => { results := [.lit (.bool true)], args := [d1, d2] }
  | _ => none }
def wireHearsRow : OpenClaim := { program := "ytknmbfkpclacgaagreatdoor", sum := "999506ec02b3cbe5bf4e4936d196bc967c2a2c9a7c4351ff60f7aeafe0471dad", func := "galley/galleylaw26.WireHears", spec := "wireHears", inPlace := ["internal/bytealg.IndexByteString", "internal/abi.NoEscape"], unfollowed := true, recurses := true, named := ["galley/wire.rulers", "galley/wire.gravities", "internal/strconv.uint64pow10", "math/bits.deBruijn32tab", "math/bits.deBruijn64tab", "galley/json.short", "galley/json.letters", "galley/step.bad"], apart := false, laid := [("math/bits.deBruijn32tab", laid_math_bits_deBruijn32tab), ("math/bits.deBruijn64tab", laid_math_bits_deBruijn64tab), ("internal/strconv.uint64pow10", laid_internal_strconv_uint64pow10), ("galley/step.bad", laid_galley_step_bad), ("galley/json.short", laid_galley_json_short), ("galley/json.letters", laid_galley_json_letters), ("galley/wire.rulers", laid_galley_wire_rulers), ("galley/wire.gravities", laid_galley_wire_gravities)] }
def WireHearsSaid : Prop := wireHearsRow.holds Tryz.pinned (OpenSpec.ofChange wireHearsSpec)

/-- ITS FALSE NEIGHBOUR: 'it returns false'. Refute it at one input. -/
def wireHearsWrong : ChangeSpec := { name := "wireHears", fn := fun _ => fun
  | [d1, d2] => { results := [.lit (.bool false)], args := [d1, d2] }
  | _ => none }
def WireHearsWrongFalsely : Prop := wireHearsRow.holds Tryz.pinned (OpenSpec.ofChange wireHearsWrong)

/-- 'galleylaw26.WireAnswers': WHATEVER THE INPUT: true; the input reads as it did. -/
def wireAnswersSpec : ChangeSpec := { name := "wireAnswers", fn := fun _ => fun
  | [d1, d2, d3] => { results := [.lit (.bool true)], args := [d1, d2, d3] }
  | _ => none }
def wireAnswersRow : OpenClaim := { program := "ytknmbfkpclacgaagreatdoor", sum := "999506ec02b3cbe5bf4e4936d196bc967c2a2c9a7c4351ff60f7aeafe0471dad", func := "galley/galleylaw26.WireAnswers", spec := "wireAnswers", inPlace := ["internal/bytealg.IndexByteString", "internal/abi.NoEscape"], unfollowed := true, recurses := true, named := ["galley/wire.rulers", "galley/wire.gravities", "internal/strconv.uint64pow10", "math/bits.deBruijn32tab", "math/bits.deBruijn64tab", "galley/json.short", "galley/json.letters", "galley/step.bad"], apart := false, laid := [("math/bits.deBruijn32tab", laid_math_bits_deBruijn32tab), ("math/bits.deBruijn64tab", laid_math_bits_deBruijn64tab), ("internal/strconv.uint64pow10", laid_internal_strconv_uint64pow10), ("galley/step.bad", laid_galley_step_bad), ("galley/json.short", laid_galley_json_short), ("galley/json.letters", laid_galley_json_letters), ("galley/wire.rulers", laid_galley_wire_rulers), ("galley/wire.gravities", laid_galley_wire_gravities)] }
def WireAnswersSaid : Prop := wireAnswersRow.holds Tryz.pinned (OpenSpec.ofChange wireAnswersSpec)

/-- ITS FALSE NEIGHBOUR: 'it returns false'. Refute it at one input. -/
def wireAnswersWrong : ChangeSpec := { name := "wireAnswers", fn := fun _ => fun
  | [d1, d2, d3] => { results := [.lit (.bool false)], args := [d1, d2, d3] }
  | _ => none }
def WireAnswersWrongFalsely : Prop := wireAnswersRow.holds Tryz.pinned (OpenSpec.ofChange wireAnswersWrong)

/- THE SECOND FORM. 'bulk': how many values and letters a reading holds, each counted each time it is reached (what is shared counts as often as it is met; a slice's spare places count too). A statement '..UptoSaid' is the law's where the arguments, and the package variables that the reading takes, are together of bulk at most 1048576: NARROWER than '..Said'. Prove '..Said' where nothing that the law and all that it calls make is longer than what came in: it says more and counts as full. Else prove '..UptoSaid'. A law counts once. -/
mutual
def uptoBulk {H : Type} : DataW H → Nat
  | .lit (.string bytes) => bytes.length + 1
  | .lit _ => 1
  | .nil => 1
  | .ptr d => uptoBulk d + 1
  | .slice elems spare => uptoBulkAll elems + uptoBulkAll spare + 1
  | .agg parts => uptoBulkAll parts + 1
  | .iface _ d => uptoBulk d + 1
  | .map entries => uptoBulkEntries entries + 1
  | .held _ => 1
def uptoBulkAll {H : Type} : List (DataW H) → Nat
  | [] => 0
  | d :: r => uptoBulk d + uptoBulkAll r
def uptoBulkEntries {H : Type} : List (Lit × DataW H) → Nat
  | [] => 0
  | x :: r => uptoBulkEntry x + uptoBulkEntries r
def uptoBulkEntry {H : Type} : Lit × DataW H → Nat
  | (.string bytes, d) => bytes.length + uptoBulk d + 1
  | (_, d) => uptoBulk d + 1
 end
def uptoSmall : (H : Type) → List (DataW H) → Bool := fun _ ds => decide (uptoBulkAll ds ≤ 1048576)
def OpenSpec.upto (s : _root_.Go.ChangeSpec) : _root_.Go.OpenSpec := { _root_.Go.OpenSpec.ofChange s with cond := some uptoSmall }

/-- 'galleylaw24.JsonParses', WHERE WHAT IT READS IS OF BULK AT MOST 1048576: true; the input reads as it did. -/
def jsonParsesUptoRow : OpenClaim := { program := "ytknmbfkpclacgaagreatdoor", sum := "999506ec02b3cbe5bf4e4936d196bc967c2a2c9a7c4351ff60f7aeafe0471dad", func := "galley/galleylaw24.JsonParses", spec := "jsonParses", inPlace := ["internal/abi.NoEscape"], unfollowed := true, recurses := true, named := ["galley/json.letters", "galley/step.bad", "internal/strconv.uint64pow10", "math/bits.deBruijn32tab", "math/bits.deBruijn64tab", "galley/json.short"], apart := false, laid := [("math/bits.deBruijn32tab", laid_math_bits_deBruijn32tab), ("math/bits.deBruijn64tab", laid_math_bits_deBruijn64tab), ("internal/strconv.uint64pow10", laid_internal_strconv_uint64pow10), ("galley/step.bad", laid_galley_step_bad), ("galley/json.short", laid_galley_json_short), ("galley/json.letters", laid_galley_json_letters)], narrowed := true }
def JsonParsesUptoSaid : Prop := jsonParsesUptoRow.holds Tryz.pinned (OpenSpec.upto jsonParsesSpec)

/-- 'galleylaw24.JsonTrees', WHERE WHAT IT READS IS OF BULK AT MOST 1048576: true; the input reads as it did. -/
def jsonTreesUptoRow : OpenClaim := { program := "ytknmbfkpclacgaagreatdoor", sum := "999506ec02b3cbe5bf4e4936d196bc967c2a2c9a7c4351ff60f7aeafe0471dad", func := "galley/galleylaw24.JsonTrees", spec := "jsonTrees", inPlace := ["internal/abi.NoEscape"], unfollowed := true, recurses := true, named := ["galley/json.letters", "galley/step.bad", "internal/strconv.uint64pow10", "math/bits.deBruijn32tab", "math/bits.deBruijn64tab", "galley/json.short"], apart := false, laid := [("math/bits.deBruijn32tab", laid_math_bits_deBruijn32tab), ("math/bits.deBruijn64tab", laid_math_bits_deBruijn64tab), ("internal/strconv.uint64pow10", laid_internal_strconv_uint64pow10), ("galley/step.bad", laid_galley_step_bad), ("galley/json.short", laid_galley_json_short), ("galley/json.letters", laid_galley_json_letters)], narrowed := true }
def JsonTreesUptoSaid : Prop := jsonTreesUptoRow.holds Tryz.pinned (OpenSpec.upto jsonTreesSpec)

/-- 'galleylaw24.JsonQuotes', WHERE WHAT IT READS IS OF BULK AT MOST 1048576: true; the input reads as it did. -/
def jsonQuotesUptoRow : OpenClaim := { program := "ytknmbfkpclacgaagreatdoor", sum := "999506ec02b3cbe5bf4e4936d196bc967c2a2c9a7c4351ff60f7aeafe0471dad", func := "galley/galleylaw24.JsonQuotes", spec := "jsonQuotes", inPlace := ["internal/abi.NoEscape"], unfollowed := true, recurses := true, named := ["galley/json.letters", "galley/step.bad", "internal/strconv.uint64pow10", "math/bits.deBruijn32tab", "math/bits.deBruijn64tab", "galley/json.short"], apart := false, laid := [("math/bits.deBruijn32tab", laid_math_bits_deBruijn32tab), ("math/bits.deBruijn64tab", laid_math_bits_deBruijn64tab), ("internal/strconv.uint64pow10", laid_internal_strconv_uint64pow10), ("galley/step.bad", laid_galley_step_bad), ("galley/json.short", laid_galley_json_short), ("galley/json.letters", laid_galley_json_letters)], narrowed := true }
def JsonQuotesUptoSaid : Prop := jsonQuotesUptoRow.holds Tryz.pinned (OpenSpec.upto jsonQuotesSpec)

/-- 'galleylaw26.WireOrder', WHERE WHAT IT READS IS OF BULK AT MOST 1048576: true; the input reads as it did. -/
def wireOrderUptoRow : OpenClaim := { program := "ytknmbfkpclacgaagreatdoor", sum := "999506ec02b3cbe5bf4e4936d196bc967c2a2c9a7c4351ff60f7aeafe0471dad", func := "galley/galleylaw26.WireOrder", spec := "wireOrder", inPlace := ["internal/bytealg.IndexByteString", "internal/abi.NoEscape"], unfollowed := true, recurses := true, named := ["galley/wire.rulers", "galley/wire.gravities", "internal/strconv.uint64pow10", "math/bits.deBruijn32tab", "math/bits.deBruijn64tab", "galley/json.short", "galley/json.letters", "galley/step.bad"], apart := false, laid := [("math/bits.deBruijn32tab", laid_math_bits_deBruijn32tab), ("math/bits.deBruijn64tab", laid_math_bits_deBruijn64tab), ("internal/strconv.uint64pow10", laid_internal_strconv_uint64pow10), ("galley/step.bad", laid_galley_step_bad), ("galley/json.short", laid_galley_json_short), ("galley/json.letters", laid_galley_json_letters), ("galley/wire.rulers", laid_galley_wire_rulers), ("galley/wire.gravities", laid_galley_wire_gravities)], narrowed := true }
def WireOrderUptoSaid : Prop := wireOrderUptoRow.holds Tryz.pinned (OpenSpec.upto wireOrderSpec)

/-- 'galleylaw26.WireTexts', WHERE WHAT IT READS IS OF BULK AT MOST 1048576: true; the input reads as it did. -/
def wireTextsUptoRow : OpenClaim := { program := "ytknmbfkpclacgaagreatdoor", sum := "999506ec02b3cbe5bf4e4936d196bc967c2a2c9a7c4351ff60f7aeafe0471dad", func := "galley/galleylaw26.WireTexts", spec := "wireTexts", inPlace := ["internal/bytealg.IndexByteString", "internal/abi.NoEscape"], unfollowed := true, recurses := true, named := ["galley/wire.rulers", "galley/wire.gravities", "internal/strconv.uint64pow10", "math/bits.deBruijn32tab", "math/bits.deBruijn64tab", "galley/json.short", "galley/json.letters", "galley/step.bad"], apart := false, laid := [("math/bits.deBruijn32tab", laid_math_bits_deBruijn32tab), ("math/bits.deBruijn64tab", laid_math_bits_deBruijn64tab), ("internal/strconv.uint64pow10", laid_internal_strconv_uint64pow10), ("galley/step.bad", laid_galley_step_bad), ("galley/json.short", laid_galley_json_short), ("galley/json.letters", laid_galley_json_letters), ("galley/wire.rulers", laid_galley_wire_rulers), ("galley/wire.gravities", laid_galley_wire_gravities)], narrowed := true }
def WireTextsUptoSaid : Prop := wireTextsUptoRow.holds Tryz.pinned (OpenSpec.upto wireTextsSpec)

/-- 'galleylaw24.JsonSame', WHERE WHAT IT READS IS OF BULK AT MOST 1048576: true; the input reads as it did. -/
def jsonSameUptoRow : OpenClaim := { program := "ytknmbfkpclacgaagreatdoor", sum := "999506ec02b3cbe5bf4e4936d196bc967c2a2c9a7c4351ff60f7aeafe0471dad", func := "galley/galleylaw24.JsonSame", spec := "jsonSame", inPlace := ["internal/abi.NoEscape"], unfollowed := true, recurses := true, named := ["galley/json.letters", "galley/step.bad", "internal/strconv.uint64pow10", "math/bits.deBruijn32tab", "math/bits.deBruijn64tab", "galley/json.short"], apart := false, laid := [("math/bits.deBruijn32tab", laid_math_bits_deBruijn32tab), ("math/bits.deBruijn64tab", laid_math_bits_deBruijn64tab), ("internal/strconv.uint64pow10", laid_internal_strconv_uint64pow10), ("galley/step.bad", laid_galley_step_bad), ("galley/json.short", laid_galley_json_short), ("galley/json.letters", laid_galley_json_letters)], narrowed := true }
def JsonSameUptoSaid : Prop := jsonSameUptoRow.holds Tryz.pinned (OpenSpec.upto jsonSameSpec)

/-- 'galleylaw24.JsonMemory', WHERE WHAT IT READS IS OF BULK AT MOST 1048576: true; the input reads as it did. -/
def jsonMemoryUptoRow : OpenClaim := { program := "ytknmbfkpclacgaagreatdoor", sum := "999506ec02b3cbe5bf4e4936d196bc967c2a2c9a7c4351ff60f7aeafe0471dad", func := "galley/galleylaw24.JsonMemory", spec := "jsonMemory", inPlace := ["internal/abi.NoEscape"], unfollowed := true, recurses := true, named := ["galley/json.letters", "galley/step.bad", "internal/strconv.uint64pow10", "math/bits.deBruijn32tab", "math/bits.deBruijn64tab", "galley/json.short"], apart := false, laid := [("math/bits.deBruijn32tab", laid_math_bits_deBruijn32tab), ("math/bits.deBruijn64tab", laid_math_bits_deBruijn64tab), ("internal/strconv.uint64pow10", laid_internal_strconv_uint64pow10), ("galley/step.bad", laid_galley_step_bad), ("galley/json.short", laid_galley_json_short), ("galley/json.letters", laid_galley_json_letters)], narrowed := true }
def JsonMemoryUptoSaid : Prop := jsonMemoryUptoRow.holds Tryz.pinned (OpenSpec.upto jsonMemorySpec)

/-- 'galleylaw26.WirePrints', WHERE WHAT IT READS IS OF BULK AT MOST 1048576: true; the input reads as it did. -/
def wirePrintsUptoRow : OpenClaim := { program := "ytknmbfkpclacgaagreatdoor", sum := "999506ec02b3cbe5bf4e4936d196bc967c2a2c9a7c4351ff60f7aeafe0471dad", func := "galley/galleylaw26.WirePrints", spec := "wirePrints", inPlace := ["internal/bytealg.IndexByteString", "internal/abi.NoEscape"], unfollowed := true, recurses := true, named := ["galley/wire.rulers", "galley/wire.gravities", "internal/strconv.uint64pow10", "math/bits.deBruijn32tab", "math/bits.deBruijn64tab", "galley/json.short", "galley/json.letters", "galley/step.bad"], apart := false, laid := [("math/bits.deBruijn32tab", laid_math_bits_deBruijn32tab), ("math/bits.deBruijn64tab", laid_math_bits_deBruijn64tab), ("internal/strconv.uint64pow10", laid_internal_strconv_uint64pow10), ("galley/step.bad", laid_galley_step_bad), ("galley/json.short", laid_galley_json_short), ("galley/json.letters", laid_galley_json_letters), ("galley/wire.rulers", laid_galley_wire_rulers), ("galley/wire.gravities", laid_galley_wire_gravities)], narrowed := true }
def WirePrintsUptoSaid : Prop := wirePrintsUptoRow.holds Tryz.pinned (OpenSpec.upto wirePrintsSpec)

/-- 'galleylaw26.WireParses', WHERE WHAT IT READS IS OF BULK AT MOST 1048576: true; the input reads as it did. -/
def wireParsesUptoRow : OpenClaim := { program := "ytknmbfkpclacgaagreatdoor", sum := "999506ec02b3cbe5bf4e4936d196bc967c2a2c9a7c4351ff60f7aeafe0471dad", func := "galley/galleylaw26.WireParses", spec := "wireParses", inPlace := ["internal/bytealg.IndexByteString", "internal/abi.NoEscape"], unfollowed := true, recurses := true, named := ["galley/wire.rulers", "galley/wire.gravities", "internal/strconv.uint64pow10", "math/bits.deBruijn32tab", "math/bits.deBruijn64tab", "galley/json.short", "galley/json.letters", "galley/step.bad"], apart := false, laid := [("math/bits.deBruijn32tab", laid_math_bits_deBruijn32tab), ("math/bits.deBruijn64tab", laid_math_bits_deBruijn64tab), ("internal/strconv.uint64pow10", laid_internal_strconv_uint64pow10), ("galley/step.bad", laid_galley_step_bad), ("galley/json.short", laid_galley_json_short), ("galley/json.letters", laid_galley_json_letters), ("galley/wire.rulers", laid_galley_wire_rulers), ("galley/wire.gravities", laid_galley_wire_gravities)], narrowed := true }
def WireParsesUptoSaid : Prop := wireParsesUptoRow.holds Tryz.pinned (OpenSpec.upto wireParsesSpec)

/-- 'galleylaw26.WireReplies', WHERE WHAT IT READS IS OF BULK AT MOST 1048576: true; the input reads as it did. -/
def wireRepliesUptoRow : OpenClaim := { program := "ytknmbfkpclacgaagreatdoor", sum := "999506ec02b3cbe5bf4e4936d196bc967c2a2c9a7c4351ff60f7aeafe0471dad", func := "galley/galleylaw26.WireReplies", spec := "wireReplies", inPlace := ["internal/bytealg.IndexByteString", "internal/abi.NoEscape"], unfollowed := true, recurses := true, named := ["galley/wire.rulers", "galley/wire.gravities", "internal/strconv.uint64pow10", "math/bits.deBruijn32tab", "math/bits.deBruijn64tab", "galley/json.short", "galley/json.letters", "galley/step.bad"], apart := false, laid := [("math/bits.deBruijn32tab", laid_math_bits_deBruijn32tab), ("math/bits.deBruijn64tab", laid_math_bits_deBruijn64tab), ("internal/strconv.uint64pow10", laid_internal_strconv_uint64pow10), ("galley/step.bad", laid_galley_step_bad), ("galley/json.short", laid_galley_json_short), ("galley/json.letters", laid_galley_json_letters), ("galley/wire.rulers", laid_galley_wire_rulers), ("galley/wire.gravities", laid_galley_wire_gravities)], narrowed := true }
def WireRepliesUptoSaid : Prop := wireRepliesUptoRow.holds Tryz.pinned (OpenSpec.upto wireRepliesSpec)

/-- 'galleylaw26.WireBack', WHERE WHAT IT READS IS OF BULK AT MOST 1048576: true; the input reads as it did. -/
def wireBackUptoRow : OpenClaim := { program := "ytknmbfkpclacgaagreatdoor", sum := "999506ec02b3cbe5bf4e4936d196bc967c2a2c9a7c4351ff60f7aeafe0471dad", func := "galley/galleylaw26.WireBack", spec := "wireBack", inPlace := ["internal/bytealg.IndexByteString", "internal/abi.NoEscape"], unfollowed := true, recurses := true, named := ["galley/wire.rulers", "galley/wire.gravities", "internal/strconv.uint64pow10", "math/bits.deBruijn32tab", "math/bits.deBruijn64tab", "galley/json.short", "galley/json.letters", "galley/step.bad"], apart := false, laid := [("math/bits.deBruijn32tab", laid_math_bits_deBruijn32tab), ("math/bits.deBruijn64tab", laid_math_bits_deBruijn64tab), ("internal/strconv.uint64pow10", laid_internal_strconv_uint64pow10), ("galley/step.bad", laid_galley_step_bad), ("galley/json.short", laid_galley_json_short), ("galley/json.letters", laid_galley_json_letters), ("galley/wire.rulers", laid_galley_wire_rulers), ("galley/wire.gravities", laid_galley_wire_gravities)], narrowed := true }
def WireBackUptoSaid : Prop := wireBackUptoRow.holds Tryz.pinned (OpenSpec.upto wireBackSpec)

/-- 'galleylaw26.WireOwn', WHERE WHAT IT READS IS OF BULK AT MOST 1048576: true; the input reads as it did. -/
def wireOwnUptoRow : OpenClaim := { program := "ytknmbfkpclacgaagreatdoor", sum := "999506ec02b3cbe5bf4e4936d196bc967c2a2c9a7c4351ff60f7aeafe0471dad", func := "galley/galleylaw26.WireOwn", spec := "wireOwn", inPlace := ["internal/bytealg.IndexByteString", "internal/abi.NoEscape"], unfollowed := true, recurses := true, named := ["galley/wire.rulers", "galley/wire.gravities", "internal/strconv.uint64pow10", "math/bits.deBruijn32tab", "math/bits.deBruijn64tab", "galley/json.short", "galley/json.letters", "galley/step.bad"], apart := false, laid := [("math/bits.deBruijn32tab", laid_math_bits_deBruijn32tab), ("math/bits.deBruijn64tab", laid_math_bits_deBruijn64tab), ("internal/strconv.uint64pow10", laid_internal_strconv_uint64pow10), ("galley/step.bad", laid_galley_step_bad), ("galley/json.short", laid_galley_json_short), ("galley/json.letters", laid_galley_json_letters), ("galley/wire.rulers", laid_galley_wire_rulers), ("galley/wire.gravities", laid_galley_wire_gravities)], narrowed := true }
def WireOwnUptoSaid : Prop := wireOwnUptoRow.holds Tryz.pinned (OpenSpec.upto wireOwnSpec)

/-- 'galleylaw26.WireHears', WHERE WHAT IT READS IS OF BULK AT MOST 1048576: true; the input reads as it did. -/
def wireHearsUptoRow : OpenClaim := { program := "ytknmbfkpclacgaagreatdoor", sum := "999506ec02b3cbe5bf4e4936d196bc967c2a2c9a7c4351ff60f7aeafe0471dad", func := "galley/galleylaw26.WireHears", spec := "wireHears", inPlace := ["internal/bytealg.IndexByteString", "internal/abi.NoEscape"], unfollowed := true, recurses := true, named := ["galley/wire.rulers", "galley/wire.gravities", "internal/strconv.uint64pow10", "math/bits.deBruijn32tab", "math/bits.deBruijn64tab", "galley/json.short", "galley/json.letters", "galley/step.bad"], apart := false, laid := [("math/bits.deBruijn32tab", laid_math_bits_deBruijn32tab), ("math/bits.deBruijn64tab", laid_math_bits_deBruijn64tab), ("internal/strconv.uint64pow10", laid_internal_strconv_uint64pow10), ("galley/step.bad", laid_galley_step_bad), ("galley/json.short", laid_galley_json_short), ("galley/json.letters", laid_galley_json_letters), ("galley/wire.rulers", laid_galley_wire_rulers), ("galley/wire.gravities", laid_galley_wire_gravities)], narrowed := true }
def WireHearsUptoSaid : Prop := wireHearsUptoRow.holds Tryz.pinned (OpenSpec.upto wireHearsSpec)

/-- 'galleylaw26.WireAnswers', WHERE WHAT IT READS IS OF BULK AT MOST 1048576: true; the input reads as it did. -/
def wireAnswersUptoRow : OpenClaim := { program := "ytknmbfkpclacgaagreatdoor", sum := "999506ec02b3cbe5bf4e4936d196bc967c2a2c9a7c4351ff60f7aeafe0471dad", func := "galley/galleylaw26.WireAnswers", spec := "wireAnswers", inPlace := ["internal/bytealg.IndexByteString", "internal/abi.NoEscape"], unfollowed := true, recurses := true, named := ["galley/wire.rulers", "galley/wire.gravities", "internal/strconv.uint64pow10", "math/bits.deBruijn32tab", "math/bits.deBruijn64tab", "galley/json.short", "galley/json.letters", "galley/step.bad"], apart := false, laid := [("math/bits.deBruijn32tab", laid_math_bits_deBruijn32tab), ("math/bits.deBruijn64tab", laid_math_bits_deBruijn64tab), ("internal/strconv.uint64pow10", laid_internal_strconv_uint64pow10), ("galley/step.bad", laid_galley_step_bad), ("galley/json.short", laid_galley_json_short), ("galley/json.letters", laid_galley_json_letters), ("galley/wire.rulers", laid_galley_wire_rulers), ("galley/wire.gravities", laid_galley_wire_gravities)], narrowed := true }
def WireAnswersUptoSaid : Prop := wireAnswersUptoRow.holds Tryz.pinned (OpenSpec.upto wireAnswersSpec)

end Rows
end Go.Proofs.YtknmbfkpclacgaaGreatDoor
