/-
  DERIVED. GIVEN WITH THE SEED: THE CARDS: each row of YtknmbfkpclacgaaGreatDoorRows.lean that lists a variable, with what it lists TIED to the program's text (the seventh form; the later family's looks); each row that meets fmt, with fmt's text TOLD by the authors' own Lean function (tested against real Go, not proved from fmt's source: count such statements apart). THE CARD IS WHAT COUNTS. Prove the row's statement (the work); the ties are given (YtknmbfkpclacgaaGreatDoorTie.lean); close each card by the builder's one call (the guide's Derived/Test/ToyasCard.lean, 'card_holds'). Laid BY PROGRAM, IN A SANDBOX (cutbox-door.mjs). By AI agents, Wed Nov 11 2026. No macro, syntax, notation, axiom, sorry.
-/
import Derived.Test.YtknmbfkpclacgaaGreatDoorRows
import GoSem.ClaimSeven
namespace Go.Proofs.YtknmbfkpclacgaaGreatDoor
namespace Rows

/-- THE TIED CARD OF 'galleylaw24.JsonParses'. -/
def jsonParsesCard : Claim7 := { stood := { row := jsonParsesRow, standIns := [], harness := (true, "62781dc283622fe9512591e6be9e52305ea26fd2f361242e0ddda9f22ab46924"), looks := true }, kinds := [], alts := [], laidByText := true, laidKinds := [.data, .data, .data, .data, .mapped, .mapped], laidTests := true, laidLooks := .later }
def JsonParsesCardSaid : Prop := Claim7.holds Tryz.pinned (.plain (OpenSpec.ofChange jsonParsesSpec)) jsonParsesCard

/-- THE TIED CARD OF 'galleylaw24.JsonTrees'. -/
def jsonTreesCard : Claim7 := { stood := { row := jsonTreesRow, standIns := [], harness := (true, "62781dc283622fe9512591e6be9e52305ea26fd2f361242e0ddda9f22ab46924"), looks := true }, kinds := [], alts := [], laidByText := true, laidKinds := [.data, .data, .data, .data, .mapped, .mapped], laidTests := true, laidLooks := .later }
def JsonTreesCardSaid : Prop := Claim7.holds Tryz.pinned (.plain (OpenSpec.ofChange jsonTreesSpec)) jsonTreesCard

/-- THE TIED CARD OF 'galleylaw24.JsonQuotes'. -/
def jsonQuotesCard : Claim7 := { stood := { row := jsonQuotesRow, standIns := [], harness := (true, "62781dc283622fe9512591e6be9e52305ea26fd2f361242e0ddda9f22ab46924"), looks := true }, kinds := [], alts := [], laidByText := true, laidKinds := [.data, .data, .data, .data, .mapped, .mapped], laidTests := true, laidLooks := .later }
def JsonQuotesCardSaid : Prop := Claim7.holds Tryz.pinned (.plain (OpenSpec.ofChange jsonQuotesSpec)) jsonQuotesCard

/-- THE TIED CARD OF 'galleylaw26.WireOrder'. -/
def wireOrderCard : Claim7 := { stood := { row := wireOrderRow, standIns := [], harness := (true, "62781dc283622fe9512591e6be9e52305ea26fd2f361242e0ddda9f22ab46924"), looks := true }, kinds := [], alts := [], laidByText := true, laidKinds := [.data, .data, .data, .data, .mapped, .mapped, .widerDeep, .widerDeep], laidTests := true, laidLooks := .later }
def WireOrderCardSaid : Prop := Claim7.holds Tryz.pinned (.plain (OpenSpec.ofChange wireOrderSpec)) wireOrderCard

/-- THE TIED CARD OF 'galleylaw26.WireTexts'. -/
def wireTextsCard : Claim7 := { stood := { row := wireTextsRow, standIns := [], harness := (true, "62781dc283622fe9512591e6be9e52305ea26fd2f361242e0ddda9f22ab46924"), looks := true }, kinds := [], alts := [], laidByText := true, laidKinds := [.data, .data, .data, .data, .mapped, .mapped, .widerDeep, .widerDeep], laidTests := true, laidLooks := .later }
def WireTextsCardSaid : Prop := Claim7.holds Tryz.pinned (.plain (OpenSpec.ofChange wireTextsSpec)) wireTextsCard

/-- THE TIED CARD OF 'galleylaw24.JsonSame'. -/
def jsonSameCard : Claim7 := { stood := { row := jsonSameRow, standIns := [], harness := (true, "62781dc283622fe9512591e6be9e52305ea26fd2f361242e0ddda9f22ab46924"), looks := true }, kinds := [], alts := [], laidByText := true, laidKinds := [.data, .data, .data, .data, .mapped, .mapped], laidTests := true, laidLooks := .later }
def JsonSameCardSaid : Prop := Claim7.holds Tryz.pinned (.plain (OpenSpec.ofChange jsonSameSpec)) jsonSameCard

/-- THE TIED CARD OF 'galleylaw24.JsonMemory'. -/
def jsonMemoryCard : Claim7 := { stood := { row := jsonMemoryRow, standIns := [], harness := (true, "62781dc283622fe9512591e6be9e52305ea26fd2f361242e0ddda9f22ab46924"), looks := true }, kinds := [], alts := [], laidByText := true, laidKinds := [.data, .data, .data, .data, .mapped, .mapped], laidTests := true, laidLooks := .later }
def JsonMemoryCardSaid : Prop := Claim7.holds Tryz.pinned (.plain (OpenSpec.ofChange jsonMemorySpec)) jsonMemoryCard

/-- THE TIED CARD OF 'galleylaw26.WirePrints'. -/
def wirePrintsCard : Claim7 := { stood := { row := wirePrintsRow, standIns := [], harness := (true, "62781dc283622fe9512591e6be9e52305ea26fd2f361242e0ddda9f22ab46924"), looks := true }, kinds := [], alts := [], laidByText := true, laidKinds := [.data, .data, .data, .data, .mapped, .mapped, .widerDeep, .widerDeep], laidTests := true, laidLooks := .later }
def WirePrintsCardSaid : Prop := Claim7.holds Tryz.pinned (.plain (OpenSpec.ofChange wirePrintsSpec)) wirePrintsCard

/-- THE TIED CARD OF 'galleylaw26.WireParses'. -/
def wireParsesCard : Claim7 := { stood := { row := wireParsesRow, standIns := [], harness := (true, "62781dc283622fe9512591e6be9e52305ea26fd2f361242e0ddda9f22ab46924"), looks := true }, kinds := [], alts := [], laidByText := true, laidKinds := [.data, .data, .data, .data, .mapped, .mapped, .widerDeep, .widerDeep], laidTests := true, laidLooks := .later }
def WireParsesCardSaid : Prop := Claim7.holds Tryz.pinned (.plain (OpenSpec.ofChange wireParsesSpec)) wireParsesCard

/-- THE TIED CARD OF 'galleylaw26.WireReplies'. -/
def wireRepliesCard : Claim7 := { stood := { row := wireRepliesRow, standIns := [], harness := (true, "62781dc283622fe9512591e6be9e52305ea26fd2f361242e0ddda9f22ab46924"), looks := true }, kinds := [], alts := [], laidByText := true, laidKinds := [.data, .data, .data, .data, .mapped, .mapped, .widerDeep, .widerDeep], laidTests := true, laidLooks := .later }
def WireRepliesCardSaid : Prop := Claim7.holds Tryz.pinned (.plain (OpenSpec.ofChange wireRepliesSpec)) wireRepliesCard

/-- THE TIED CARD OF 'galleylaw26.WireBack'. -/
def wireBackCard : Claim7 := { stood := { row := wireBackRow, standIns := [], harness := (true, "62781dc283622fe9512591e6be9e52305ea26fd2f361242e0ddda9f22ab46924"), looks := true }, kinds := [], alts := [], laidByText := true, laidKinds := [.data, .data, .data, .data, .mapped, .mapped, .widerDeep, .widerDeep], laidTests := true, laidLooks := .later }
def WireBackCardSaid : Prop := Claim7.holds Tryz.pinned (.plain (OpenSpec.ofChange wireBackSpec)) wireBackCard

/-- THE TIED CARD OF 'galleylaw26.WireOwn'. -/
def wireOwnCard : Claim7 := { stood := { row := wireOwnRow, standIns := [], harness := (true, "62781dc283622fe9512591e6be9e52305ea26fd2f361242e0ddda9f22ab46924"), looks := true }, kinds := [], alts := [], laidByText := true, laidKinds := [.data, .data, .data, .data, .mapped, .mapped, .widerDeep, .widerDeep], laidTests := true, laidLooks := .later }
def WireOwnCardSaid : Prop := Claim7.holds Tryz.pinned (.plain (OpenSpec.ofChange wireOwnSpec)) wireOwnCard

/-- THE TIED CARD OF 'galleylaw26.WireHears'. -/
def wireHearsCard : Claim7 := { stood := { row := wireHearsRow, standIns := [], harness := (true, "62781dc283622fe9512591e6be9e52305ea26fd2f361242e0ddda9f22ab46924"), looks := true }, kinds := [], alts := [], laidByText := true, laidKinds := [.data, .data, .data, .data, .mapped, .mapped, .widerDeep, .widerDeep], laidTests := true, laidLooks := .later }
def WireHearsCardSaid : Prop := Claim7.holds Tryz.pinned (.plain (OpenSpec.ofChange wireHearsSpec)) wireHearsCard

/-- THE TIED CARD OF 'galleylaw26.WireAnswers'. -/
def wireAnswersCard : Claim7 := { stood := { row := wireAnswersRow, standIns := [], harness := (true, "62781dc283622fe9512591e6be9e52305ea26fd2f361242e0ddda9f22ab46924"), looks := true }, kinds := [], alts := [], laidByText := true, laidKinds := [.data, .data, .data, .data, .mapped, .mapped, .widerDeep, .widerDeep], laidTests := true, laidLooks := .later }
def WireAnswersCardSaid : Prop := Claim7.holds Tryz.pinned (.plain (OpenSpec.ofChange wireAnswersSpec)) wireAnswersCard

/-- THE SECOND FORM's CARD OF 'galleylaw24.JsonParses'. -/
def jsonParsesUptoCard : Claim7 := { stood := { row := jsonParsesUptoRow, standIns := [], harness := (true, "62781dc283622fe9512591e6be9e52305ea26fd2f361242e0ddda9f22ab46924"), looks := true }, kinds := [], alts := [], laidByText := true, laidKinds := [.data, .data, .data, .data, .mapped, .mapped], laidTests := true, laidLooks := .later }
def JsonParsesUptoCardSaid : Prop := Claim7.holds Tryz.pinned (.plain (OpenSpec.upto jsonParsesSpec)) jsonParsesUptoCard

/-- THE SECOND FORM's CARD OF 'galleylaw24.JsonTrees'. -/
def jsonTreesUptoCard : Claim7 := { stood := { row := jsonTreesUptoRow, standIns := [], harness := (true, "62781dc283622fe9512591e6be9e52305ea26fd2f361242e0ddda9f22ab46924"), looks := true }, kinds := [], alts := [], laidByText := true, laidKinds := [.data, .data, .data, .data, .mapped, .mapped], laidTests := true, laidLooks := .later }
def JsonTreesUptoCardSaid : Prop := Claim7.holds Tryz.pinned (.plain (OpenSpec.upto jsonTreesSpec)) jsonTreesUptoCard

/-- THE SECOND FORM's CARD OF 'galleylaw24.JsonQuotes'. -/
def jsonQuotesUptoCard : Claim7 := { stood := { row := jsonQuotesUptoRow, standIns := [], harness := (true, "62781dc283622fe9512591e6be9e52305ea26fd2f361242e0ddda9f22ab46924"), looks := true }, kinds := [], alts := [], laidByText := true, laidKinds := [.data, .data, .data, .data, .mapped, .mapped], laidTests := true, laidLooks := .later }
def JsonQuotesUptoCardSaid : Prop := Claim7.holds Tryz.pinned (.plain (OpenSpec.upto jsonQuotesSpec)) jsonQuotesUptoCard

/-- THE SECOND FORM's CARD OF 'galleylaw26.WireOrder'. -/
def wireOrderUptoCard : Claim7 := { stood := { row := wireOrderUptoRow, standIns := [], harness := (true, "62781dc283622fe9512591e6be9e52305ea26fd2f361242e0ddda9f22ab46924"), looks := true }, kinds := [], alts := [], laidByText := true, laidKinds := [.data, .data, .data, .data, .mapped, .mapped, .widerDeep, .widerDeep], laidTests := true, laidLooks := .later }
def WireOrderUptoCardSaid : Prop := Claim7.holds Tryz.pinned (.plain (OpenSpec.upto wireOrderSpec)) wireOrderUptoCard

/-- THE SECOND FORM's CARD OF 'galleylaw26.WireTexts'. -/
def wireTextsUptoCard : Claim7 := { stood := { row := wireTextsUptoRow, standIns := [], harness := (true, "62781dc283622fe9512591e6be9e52305ea26fd2f361242e0ddda9f22ab46924"), looks := true }, kinds := [], alts := [], laidByText := true, laidKinds := [.data, .data, .data, .data, .mapped, .mapped, .widerDeep, .widerDeep], laidTests := true, laidLooks := .later }
def WireTextsUptoCardSaid : Prop := Claim7.holds Tryz.pinned (.plain (OpenSpec.upto wireTextsSpec)) wireTextsUptoCard

/-- THE SECOND FORM's CARD OF 'galleylaw24.JsonSame'. -/
def jsonSameUptoCard : Claim7 := { stood := { row := jsonSameUptoRow, standIns := [], harness := (true, "62781dc283622fe9512591e6be9e52305ea26fd2f361242e0ddda9f22ab46924"), looks := true }, kinds := [], alts := [], laidByText := true, laidKinds := [.data, .data, .data, .data, .mapped, .mapped], laidTests := true, laidLooks := .later }
def JsonSameUptoCardSaid : Prop := Claim7.holds Tryz.pinned (.plain (OpenSpec.upto jsonSameSpec)) jsonSameUptoCard

/-- THE SECOND FORM's CARD OF 'galleylaw24.JsonMemory'. -/
def jsonMemoryUptoCard : Claim7 := { stood := { row := jsonMemoryUptoRow, standIns := [], harness := (true, "62781dc283622fe9512591e6be9e52305ea26fd2f361242e0ddda9f22ab46924"), looks := true }, kinds := [], alts := [], laidByText := true, laidKinds := [.data, .data, .data, .data, .mapped, .mapped], laidTests := true, laidLooks := .later }
def JsonMemoryUptoCardSaid : Prop := Claim7.holds Tryz.pinned (.plain (OpenSpec.upto jsonMemorySpec)) jsonMemoryUptoCard

/-- THE SECOND FORM's CARD OF 'galleylaw26.WirePrints'. -/
def wirePrintsUptoCard : Claim7 := { stood := { row := wirePrintsUptoRow, standIns := [], harness := (true, "62781dc283622fe9512591e6be9e52305ea26fd2f361242e0ddda9f22ab46924"), looks := true }, kinds := [], alts := [], laidByText := true, laidKinds := [.data, .data, .data, .data, .mapped, .mapped, .widerDeep, .widerDeep], laidTests := true, laidLooks := .later }
def WirePrintsUptoCardSaid : Prop := Claim7.holds Tryz.pinned (.plain (OpenSpec.upto wirePrintsSpec)) wirePrintsUptoCard

/-- THE SECOND FORM's CARD OF 'galleylaw26.WireParses'. -/
def wireParsesUptoCard : Claim7 := { stood := { row := wireParsesUptoRow, standIns := [], harness := (true, "62781dc283622fe9512591e6be9e52305ea26fd2f361242e0ddda9f22ab46924"), looks := true }, kinds := [], alts := [], laidByText := true, laidKinds := [.data, .data, .data, .data, .mapped, .mapped, .widerDeep, .widerDeep], laidTests := true, laidLooks := .later }
def WireParsesUptoCardSaid : Prop := Claim7.holds Tryz.pinned (.plain (OpenSpec.upto wireParsesSpec)) wireParsesUptoCard

/-- THE SECOND FORM's CARD OF 'galleylaw26.WireReplies'. -/
def wireRepliesUptoCard : Claim7 := { stood := { row := wireRepliesUptoRow, standIns := [], harness := (true, "62781dc283622fe9512591e6be9e52305ea26fd2f361242e0ddda9f22ab46924"), looks := true }, kinds := [], alts := [], laidByText := true, laidKinds := [.data, .data, .data, .data, .mapped, .mapped, .widerDeep, .widerDeep], laidTests := true, laidLooks := .later }
def WireRepliesUptoCardSaid : Prop := Claim7.holds Tryz.pinned (.plain (OpenSpec.upto wireRepliesSpec)) wireRepliesUptoCard

/-- THE SECOND FORM's CARD OF 'galleylaw26.WireBack'. -/
def wireBackUptoCard : Claim7 := { stood := { row := wireBackUptoRow, standIns := [], harness := (true, "62781dc283622fe9512591e6be9e52305ea26fd2f361242e0ddda9f22ab46924"), looks := true }, kinds := [], alts := [], laidByText := true, laidKinds := [.data, .data, .data, .data, .mapped, .mapped, .widerDeep, .widerDeep], laidTests := true, laidLooks := .later }
def WireBackUptoCardSaid : Prop := Claim7.holds Tryz.pinned (.plain (OpenSpec.upto wireBackSpec)) wireBackUptoCard

/-- THE SECOND FORM's CARD OF 'galleylaw26.WireOwn'. -/
def wireOwnUptoCard : Claim7 := { stood := { row := wireOwnUptoRow, standIns := [], harness := (true, "62781dc283622fe9512591e6be9e52305ea26fd2f361242e0ddda9f22ab46924"), looks := true }, kinds := [], alts := [], laidByText := true, laidKinds := [.data, .data, .data, .data, .mapped, .mapped, .widerDeep, .widerDeep], laidTests := true, laidLooks := .later }
def WireOwnUptoCardSaid : Prop := Claim7.holds Tryz.pinned (.plain (OpenSpec.upto wireOwnSpec)) wireOwnUptoCard

/-- THE SECOND FORM's CARD OF 'galleylaw26.WireHears'. -/
def wireHearsUptoCard : Claim7 := { stood := { row := wireHearsUptoRow, standIns := [], harness := (true, "62781dc283622fe9512591e6be9e52305ea26fd2f361242e0ddda9f22ab46924"), looks := true }, kinds := [], alts := [], laidByText := true, laidKinds := [.data, .data, .data, .data, .mapped, .mapped, .widerDeep, .widerDeep], laidTests := true, laidLooks := .later }
def WireHearsUptoCardSaid : Prop := Claim7.holds Tryz.pinned (.plain (OpenSpec.upto wireHearsSpec)) wireHearsUptoCard

/-- THE SECOND FORM's CARD OF 'galleylaw26.WireAnswers'. -/
def wireAnswersUptoCard : Claim7 := { stood := { row := wireAnswersUptoRow, standIns := [], harness := (true, "62781dc283622fe9512591e6be9e52305ea26fd2f361242e0ddda9f22ab46924"), looks := true }, kinds := [], alts := [], laidByText := true, laidKinds := [.data, .data, .data, .data, .mapped, .mapped, .widerDeep, .widerDeep], laidTests := true, laidLooks := .later }
def WireAnswersUptoCardSaid : Prop := Claim7.holds Tryz.pinned (.plain (OpenSpec.upto wireAnswersSpec)) wireAnswersUptoCard
end Rows
end Go.Proofs.YtknmbfkpclacgaaGreatDoor
