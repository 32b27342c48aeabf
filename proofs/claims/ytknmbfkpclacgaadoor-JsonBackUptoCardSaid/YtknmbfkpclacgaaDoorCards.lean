/-
  DERIVED. GIVEN WITH THE SEED: THE CARDS: each row of YtknmbfkpclacgaaDoorRows.lean that lists a variable, with what it lists TIED to the program's text (the seventh form; the later family's looks); each row that meets fmt, with fmt's text TOLD by the authors' own Lean function (tested against real Go, not proved from fmt's source: count such statements apart). THE CARD IS WHAT COUNTS. Prove the row's statement (the work); the ties are given (YtknmbfkpclacgaaDoorTie.lean); close each card by the builder's one call (the guide's Derived/Test/ToyasCard.lean, 'card_holds'). Laid BY PROGRAM, IN A SANDBOX (cutbox-door.mjs). By AI agents, Wed Nov 11 2026. No macro, syntax, notation, axiom, sorry.
-/
import Derived.Test.YtknmbfkpclacgaaDoorRows
import GoSem.ClaimSeven
namespace Go.Proofs.YtknmbfkpclacgaaDoor
namespace Rows

/-- THE TIED CARD OF 'galleylaw24.JsonNames'. -/
def jsonNamesCard : Claim7 := { stood := { row := jsonNamesRow, standIns := [], harness := (true, "dc99ee2370288cddbbed40b80f72c96b2a828c387a4a90f7a339dbf88cfaeea5"), looks := true }, kinds := [], alts := [], laidByText := true, laidKinds := [.data, .data, .data, .data, .mapped, .mapped], laidTests := true, laidLooks := .later }
def JsonNamesCardSaid : Prop := Claim7.holds Tryd.pinned (.plain (OpenSpec.ofChange jsonNamesSpec)) jsonNamesCard

/-- THE TIED CARD OF 'galleylaw24.JsonCut'. -/
def jsonCutCard : Claim7 := { stood := { row := jsonCutRow, standIns := [], harness := (true, "dc99ee2370288cddbbed40b80f72c96b2a828c387a4a90f7a339dbf88cfaeea5"), looks := true }, kinds := [], alts := [], laidByText := true, laidKinds := [.data, .data, .data, .data, .mapped, .mapped], laidTests := true, laidLooks := .later }
def JsonCutCardSaid : Prop := Claim7.holds Tryd.pinned (.plain (OpenSpec.ofChange jsonCutSpec)) jsonCutCard

/-- THE TIED CARD OF 'galleylaw24.JsonBlanks'. -/
def jsonBlanksCard : Claim7 := { stood := { row := jsonBlanksRow, standIns := [], harness := (true, "dc99ee2370288cddbbed40b80f72c96b2a828c387a4a90f7a339dbf88cfaeea5"), looks := true }, kinds := [], alts := [], laidByText := true, laidKinds := [.data, .data, .data, .data, .mapped, .mapped], laidTests := true, laidLooks := .later }
def JsonBlanksCardSaid : Prop := Claim7.holds Tryd.pinned (.plain (OpenSpec.ofChange jsonBlanksSpec)) jsonBlanksCard

/-- THE TIED CARD OF 'galleylaw24.JsonLanguage'. -/
def jsonLanguageCard : Claim7 := { stood := { row := jsonLanguageRow, standIns := [], harness := (true, "dc99ee2370288cddbbed40b80f72c96b2a828c387a4a90f7a339dbf88cfaeea5"), looks := true }, kinds := [], alts := [], laidByText := true, laidKinds := [.data, .data, .data, .data, .mapped, .mapped], laidTests := true, laidLooks := .later }
def JsonLanguageCardSaid : Prop := Claim7.holds Tryd.pinned (.plain (OpenSpec.ofChange jsonLanguageSpec)) jsonLanguageCard

/-- THE TIED CARD OF 'galleylaw24.JsonBack'. -/
def jsonBackCard : Claim7 := { stood := { row := jsonBackRow, standIns := [], harness := (true, "dc99ee2370288cddbbed40b80f72c96b2a828c387a4a90f7a339dbf88cfaeea5"), looks := true }, kinds := [], alts := [], laidByText := true, laidKinds := [.data, .data, .data, .data, .mapped, .mapped], laidTests := true, laidLooks := .later }
def JsonBackCardSaid : Prop := Claim7.holds Tryd.pinned (.plain (OpenSpec.ofChange jsonBackSpec)) jsonBackCard

/-- THE SECOND FORM's CARD OF 'galleylaw24.JsonNames'. -/
def jsonNamesUptoCard : Claim7 := { stood := { row := jsonNamesUptoRow, standIns := [], harness := (true, "dc99ee2370288cddbbed40b80f72c96b2a828c387a4a90f7a339dbf88cfaeea5"), looks := true }, kinds := [], alts := [], laidByText := true, laidKinds := [.data, .data, .data, .data, .mapped, .mapped], laidTests := true, laidLooks := .later }
def JsonNamesUptoCardSaid : Prop := Claim7.holds Tryd.pinned (.plain (OpenSpec.upto jsonNamesSpec)) jsonNamesUptoCard

/-- THE SECOND FORM's CARD OF 'galleylaw24.JsonCut'. -/
def jsonCutUptoCard : Claim7 := { stood := { row := jsonCutUptoRow, standIns := [], harness := (true, "dc99ee2370288cddbbed40b80f72c96b2a828c387a4a90f7a339dbf88cfaeea5"), looks := true }, kinds := [], alts := [], laidByText := true, laidKinds := [.data, .data, .data, .data, .mapped, .mapped], laidTests := true, laidLooks := .later }
def JsonCutUptoCardSaid : Prop := Claim7.holds Tryd.pinned (.plain (OpenSpec.upto jsonCutSpec)) jsonCutUptoCard

/-- THE SECOND FORM's CARD OF 'galleylaw24.JsonBlanks'. -/
def jsonBlanksUptoCard : Claim7 := { stood := { row := jsonBlanksUptoRow, standIns := [], harness := (true, "dc99ee2370288cddbbed40b80f72c96b2a828c387a4a90f7a339dbf88cfaeea5"), looks := true }, kinds := [], alts := [], laidByText := true, laidKinds := [.data, .data, .data, .data, .mapped, .mapped], laidTests := true, laidLooks := .later }
def JsonBlanksUptoCardSaid : Prop := Claim7.holds Tryd.pinned (.plain (OpenSpec.upto jsonBlanksSpec)) jsonBlanksUptoCard

/-- THE SECOND FORM's CARD OF 'galleylaw24.JsonLanguage'. -/
def jsonLanguageUptoCard : Claim7 := { stood := { row := jsonLanguageUptoRow, standIns := [], harness := (true, "dc99ee2370288cddbbed40b80f72c96b2a828c387a4a90f7a339dbf88cfaeea5"), looks := true }, kinds := [], alts := [], laidByText := true, laidKinds := [.data, .data, .data, .data, .mapped, .mapped], laidTests := true, laidLooks := .later }
def JsonLanguageUptoCardSaid : Prop := Claim7.holds Tryd.pinned (.plain (OpenSpec.upto jsonLanguageSpec)) jsonLanguageUptoCard

/-- THE SECOND FORM's CARD OF 'galleylaw24.JsonBack'. -/
def jsonBackUptoCard : Claim7 := { stood := { row := jsonBackUptoRow, standIns := [], harness := (true, "dc99ee2370288cddbbed40b80f72c96b2a828c387a4a90f7a339dbf88cfaeea5"), looks := true }, kinds := [], alts := [], laidByText := true, laidKinds := [.data, .data, .data, .data, .mapped, .mapped], laidTests := true, laidLooks := .later }
def JsonBackUptoCardSaid : Prop := Claim7.holds Tryd.pinned (.plain (OpenSpec.upto jsonBackSpec)) jsonBackUptoCard
end Rows
end Go.Proofs.YtknmbfkpclacgaaDoor
