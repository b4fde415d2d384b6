/-
  DERIVED. GIVEN WITH THE SEED: THE CARDS: each row of YtgcddjgkieambaaGreatDoorRows.lean that lists a variable, with what it lists TIED to the program's text (the seventh form; the later family's looks); each row that meets fmt, with fmt's text TOLD by the authors' own Lean function (tested against real Go, not proved from fmt's source: count such statements apart). THE CARD IS WHAT COUNTS. Prove the row's statement (the work); the ties are given (YtgcddjgkieambaaGreatDoorTie.lean); close each card by the builder's one call (the guide's Derived/Test/ToyasCard.lean, 'card_holds'). Laid BY PROGRAM, IN A SANDBOX (cutbox-door.mjs). By AI agents, Wed Nov 11 2026. No macro, syntax, notation, axiom, sorry.
-/
import Derived.Test.YtgcddjgkieambaaGreatDoorRows
import GoSem.ClaimSeven
namespace Go.Proofs.YtgcddjgkieambaaGreatDoor
namespace Rows

/-- THE TIED CARD OF 'pileuplaw04.CopyingApart'. -/
def copyingApartCard : Claim7 := { stood := { row := copyingApartRow, standIns := [], harness := (true, "e2ef424b61ad81e65def9ad5c88726167da06c5e72ce0086e467cfc4df294388"), looks := true }, kinds := [], alts := [], laidByText := true, laidKinds := [.data, .data, .data], laidTests := true, laidLooks := .later }
def CopyingApartCardSaid : Prop := Claim7.holds Tryz.pinned (.plain (OpenSpec.ofChange copyingApartSpec)) copyingApartCard

/-- THE TIED CARD OF 'pileuplaw04.CopyingJoins'. -/
def copyingJoinsCard : Claim7 := { stood := { row := copyingJoinsRow, standIns := [], harness := (true, "e2ef424b61ad81e65def9ad5c88726167da06c5e72ce0086e467cfc4df294388"), looks := true }, kinds := [], alts := [], laidByText := true, laidKinds := [.data, .data, .data], laidTests := true, laidLooks := .later }
def CopyingJoinsCardSaid : Prop := Claim7.holds Tryz.pinned (.plain (OpenSpec.ofChange copyingJoinsSpec)) copyingJoinsCard

/-- THE TIED CARD OF 'pileuplaw04.CopyingCosts'. -/
def copyingCostsCard : Claim7 := { stood := { row := copyingCostsRow, standIns := [], harness := (true, "e2ef424b61ad81e65def9ad5c88726167da06c5e72ce0086e467cfc4df294388"), looks := true }, kinds := [], alts := [], laidByText := true, laidKinds := [.data, .data, .data], laidTests := true, laidLooks := .later }
def CopyingCostsCardSaid : Prop := Claim7.holds Tryz.pinned (.plain (OpenSpec.ofChange copyingCostsSpec)) copyingCostsCard

/-- THE TIED CARD OF 'pileuplaw04.CopyingChains'. -/
def copyingChainsCard : Claim7 := { stood := { row := copyingChainsRow, standIns := [], harness := (true, "e2ef424b61ad81e65def9ad5c88726167da06c5e72ce0086e467cfc4df294388"), looks := true }, kinds := [], alts := [], laidByText := true, laidKinds := [.data, .data, .data], laidTests := true, laidLooks := .later }
def CopyingChainsCardSaid : Prop := Claim7.holds Tryz.pinned (.plain (OpenSpec.ofChange copyingChainsSpec)) copyingChainsCard

/-- THE TIED CARD OF 'pileuplaw04.CopyingCodes'. -/
def copyingCodesCard : Claim7 := { stood := { row := copyingCodesRow, standIns := [], harness := (true, "e2ef424b61ad81e65def9ad5c88726167da06c5e72ce0086e467cfc4df294388"), looks := true }, kinds := [], alts := [], laidByText := true, laidKinds := [.data, .data, .data], laidTests := true, laidLooks := .later }
def CopyingCodesCardSaid : Prop := Claim7.holds Tryz.pinned (.plain (OpenSpec.ofChange copyingCodesSpec)) copyingCodesCard

/-- THE TIED CARD OF 'pileuplaw04.CopyingRises'. -/
def copyingRisesCard : Claim7 := { stood := { row := copyingRisesRow, standIns := [], harness := (true, "e2ef424b61ad81e65def9ad5c88726167da06c5e72ce0086e467cfc4df294388"), looks := true }, kinds := [], alts := [], laidByText := true, laidKinds := [.data, .data, .data], laidTests := true, laidLooks := .later }
def CopyingRisesCardSaid : Prop := Claim7.holds Tryz.pinned (.plain (OpenSpec.ofChange copyingRisesSpec)) copyingRisesCard

/-- THE TIED CARD OF 'pileuplaw04.CopyingChars'. -/
def copyingCharsCard : Claim7 := { stood := { row := copyingCharsRow, standIns := [], harness := (true, "e2ef424b61ad81e65def9ad5c88726167da06c5e72ce0086e467cfc4df294388"), looks := true }, kinds := [], alts := [], laidByText := true, laidKinds := [.data, .data, .data], laidTests := true, laidLooks := .later }
def CopyingCharsCardSaid : Prop := Claim7.holds Tryz.pinned (.plain (OpenSpec.ofChange copyingCharsSpec)) copyingCharsCard

/-- THE TIED CARD OF 'pileuplaw04.CopyingProofs'. -/
def copyingProofsCard : Claim7 := { stood := { row := copyingProofsRow, standIns := [], harness := (true, "e2ef424b61ad81e65def9ad5c88726167da06c5e72ce0086e467cfc4df294388"), looks := true }, kinds := [], alts := [], laidByText := true, laidKinds := [.data, .data, .data], laidTests := true, laidLooks := .later }
def CopyingProofsCardSaid : Prop := Claim7.holds Tryz.pinned (.plain (OpenSpec.ofChange copyingProofsSpec)) copyingProofsCard

/-- THE TIED CARD OF 'pileuplaw04.CopyingLines'. -/
def copyingLinesCard : Claim7 := { stood := { row := copyingLinesRow, standIns := [], harness := (true, "e2ef424b61ad81e65def9ad5c88726167da06c5e72ce0086e467cfc4df294388"), looks := true }, kinds := [], alts := [], laidByText := true, laidKinds := [.data, .data, .data], laidTests := true, laidLooks := .later }
def CopyingLinesCardSaid : Prop := Claim7.holds Tryz.pinned (.plain (OpenSpec.ofChange copyingLinesSpec)) copyingLinesCard

/-- THE TIED CARD OF 'pileuplaw04.CopyingExact'. -/
def copyingExactCard : Claim7 := { stood := { row := copyingExactRow, standIns := [], harness := (true, "e2ef424b61ad81e65def9ad5c88726167da06c5e72ce0086e467cfc4df294388"), looks := true }, kinds := [], alts := [], laidByText := true, laidKinds := [.data, .data, .data], laidTests := true, laidLooks := .later }
def CopyingExactCardSaid : Prop := Claim7.holds Tryz.pinned (.plain (OpenSpec.ofChange copyingExactSpec)) copyingExactCard

/-- THE TIED CARD OF 'pileuplaw04.CopyingWitness'. -/
def copyingWitnessCard : Claim7 := { stood := { row := copyingWitnessRow, standIns := [], harness := (true, "e2ef424b61ad81e65def9ad5c88726167da06c5e72ce0086e467cfc4df294388"), looks := true }, kinds := [], alts := [], laidByText := true, laidKinds := [.data, .data, .data], laidTests := true, laidLooks := .later }
def CopyingWitnessCardSaid : Prop := Claim7.holds Tryz.pinned (.plain (OpenSpec.ofChange copyingWitnessSpec)) copyingWitnessCard

/-- THE TIED CARD OF 'pileuplaw04.CopyingNearest'. -/
def copyingNearestCard : Claim7 := { stood := { row := copyingNearestRow, standIns := [], harness := (true, "e2ef424b61ad81e65def9ad5c88726167da06c5e72ce0086e467cfc4df294388"), looks := true }, kinds := [], alts := [], laidByText := true, laidKinds := [.data, .data, .data], laidTests := true, laidLooks := .later }
def CopyingNearestCardSaid : Prop := Claim7.holds Tryz.pinned (.plain (OpenSpec.ofChange copyingNearestSpec)) copyingNearestCard

/-- THE TIED CARD OF 'pileuplaw04.CopyingBetter'. -/
def copyingBetterCard : Claim7 := { stood := { row := copyingBetterRow, standIns := [], harness := (true, "e2ef424b61ad81e65def9ad5c88726167da06c5e72ce0086e467cfc4df294388"), looks := true }, kinds := [], alts := [], laidByText := true, laidKinds := [.data, .data, .data], laidTests := true, laidLooks := .later }
def CopyingBetterCardSaid : Prop := Claim7.holds Tryz.pinned (.plain (OpenSpec.ofChange copyingBetterSpec)) copyingBetterCard

/-- THE TIED CARD OF 'pileuplaw04.CopyingNumbers'. -/
def copyingNumbersCard : Claim7 := { stood := { row := copyingNumbersRow, standIns := [], harness := (true, "e2ef424b61ad81e65def9ad5c88726167da06c5e72ce0086e467cfc4df294388"), looks := true }, kinds := [], alts := [], laidByText := true, laidKinds := [.data, .data, .data, .data, .sentinel, .sentinel, .pinned], laidTests := true, laidLooks := .later }
def CopyingNumbersCardSaid : Prop := Claim7.holds Tryz.pinned (.plain (OpenSpec.ofChange copyingNumbersSpec)) copyingNumbersCard

/-- THE TIED CARD OF 'pileuplaw04.CopyingFigures'. -/
def copyingFiguresCard : Claim7 := { stood := { row := copyingFiguresRow, standIns := [], harness := (true, "e2ef424b61ad81e65def9ad5c88726167da06c5e72ce0086e467cfc4df294388"), looks := true }, kinds := [], alts := [], laidByText := true, laidKinds := [.data, .data, .data, .data, .sentinel, .sentinel, .pinned], laidTests := true, laidLooks := .later }
def CopyingFiguresCardSaid : Prop := Claim7.holds Tryz.pinned (.plain (OpenSpec.ofChange copyingFiguresSpec)) copyingFiguresCard

/-- THE SECOND FORM's CARD OF 'pileuplaw04.CopyingApart'. -/
def copyingApartUptoCard : Claim7 := { stood := { row := copyingApartUptoRow, standIns := [], harness := (true, "e2ef424b61ad81e65def9ad5c88726167da06c5e72ce0086e467cfc4df294388"), looks := true }, kinds := [], alts := [], laidByText := true, laidKinds := [.data, .data, .data], laidTests := true, laidLooks := .later }
def CopyingApartUptoCardSaid : Prop := Claim7.holds Tryz.pinned (.plain (OpenSpec.upto copyingApartSpec)) copyingApartUptoCard

/-- THE SECOND FORM's CARD OF 'pileuplaw04.CopyingJoins'. -/
def copyingJoinsUptoCard : Claim7 := { stood := { row := copyingJoinsUptoRow, standIns := [], harness := (true, "e2ef424b61ad81e65def9ad5c88726167da06c5e72ce0086e467cfc4df294388"), looks := true }, kinds := [], alts := [], laidByText := true, laidKinds := [.data, .data, .data], laidTests := true, laidLooks := .later }
def CopyingJoinsUptoCardSaid : Prop := Claim7.holds Tryz.pinned (.plain (OpenSpec.upto copyingJoinsSpec)) copyingJoinsUptoCard

/-- THE SECOND FORM's CARD OF 'pileuplaw04.CopyingCosts'. -/
def copyingCostsUptoCard : Claim7 := { stood := { row := copyingCostsUptoRow, standIns := [], harness := (true, "e2ef424b61ad81e65def9ad5c88726167da06c5e72ce0086e467cfc4df294388"), looks := true }, kinds := [], alts := [], laidByText := true, laidKinds := [.data, .data, .data], laidTests := true, laidLooks := .later }
def CopyingCostsUptoCardSaid : Prop := Claim7.holds Tryz.pinned (.plain (OpenSpec.upto copyingCostsSpec)) copyingCostsUptoCard

/-- THE SECOND FORM's CARD OF 'pileuplaw04.CopyingChains'. -/
def copyingChainsUptoCard : Claim7 := { stood := { row := copyingChainsUptoRow, standIns := [], harness := (true, "e2ef424b61ad81e65def9ad5c88726167da06c5e72ce0086e467cfc4df294388"), looks := true }, kinds := [], alts := [], laidByText := true, laidKinds := [.data, .data, .data], laidTests := true, laidLooks := .later }
def CopyingChainsUptoCardSaid : Prop := Claim7.holds Tryz.pinned (.plain (OpenSpec.upto copyingChainsSpec)) copyingChainsUptoCard

/-- THE SECOND FORM's CARD OF 'pileuplaw04.CopyingCodes'. -/
def copyingCodesUptoCard : Claim7 := { stood := { row := copyingCodesUptoRow, standIns := [], harness := (true, "e2ef424b61ad81e65def9ad5c88726167da06c5e72ce0086e467cfc4df294388"), looks := true }, kinds := [], alts := [], laidByText := true, laidKinds := [.data, .data, .data], laidTests := true, laidLooks := .later }
def CopyingCodesUptoCardSaid : Prop := Claim7.holds Tryz.pinned (.plain (OpenSpec.upto copyingCodesSpec)) copyingCodesUptoCard

/-- THE SECOND FORM's CARD OF 'pileuplaw04.CopyingRises'. -/
def copyingRisesUptoCard : Claim7 := { stood := { row := copyingRisesUptoRow, standIns := [], harness := (true, "e2ef424b61ad81e65def9ad5c88726167da06c5e72ce0086e467cfc4df294388"), looks := true }, kinds := [], alts := [], laidByText := true, laidKinds := [.data, .data, .data], laidTests := true, laidLooks := .later }
def CopyingRisesUptoCardSaid : Prop := Claim7.holds Tryz.pinned (.plain (OpenSpec.upto copyingRisesSpec)) copyingRisesUptoCard

/-- THE SECOND FORM's CARD OF 'pileuplaw04.CopyingChars'. -/
def copyingCharsUptoCard : Claim7 := { stood := { row := copyingCharsUptoRow, standIns := [], harness := (true, "e2ef424b61ad81e65def9ad5c88726167da06c5e72ce0086e467cfc4df294388"), looks := true }, kinds := [], alts := [], laidByText := true, laidKinds := [.data, .data, .data], laidTests := true, laidLooks := .later }
def CopyingCharsUptoCardSaid : Prop := Claim7.holds Tryz.pinned (.plain (OpenSpec.upto copyingCharsSpec)) copyingCharsUptoCard

/-- THE SECOND FORM's CARD OF 'pileuplaw04.CopyingProofs'. -/
def copyingProofsUptoCard : Claim7 := { stood := { row := copyingProofsUptoRow, standIns := [], harness := (true, "e2ef424b61ad81e65def9ad5c88726167da06c5e72ce0086e467cfc4df294388"), looks := true }, kinds := [], alts := [], laidByText := true, laidKinds := [.data, .data, .data], laidTests := true, laidLooks := .later }
def CopyingProofsUptoCardSaid : Prop := Claim7.holds Tryz.pinned (.plain (OpenSpec.upto copyingProofsSpec)) copyingProofsUptoCard

/-- THE SECOND FORM's CARD OF 'pileuplaw04.CopyingLines'. -/
def copyingLinesUptoCard : Claim7 := { stood := { row := copyingLinesUptoRow, standIns := [], harness := (true, "e2ef424b61ad81e65def9ad5c88726167da06c5e72ce0086e467cfc4df294388"), looks := true }, kinds := [], alts := [], laidByText := true, laidKinds := [.data, .data, .data], laidTests := true, laidLooks := .later }
def CopyingLinesUptoCardSaid : Prop := Claim7.holds Tryz.pinned (.plain (OpenSpec.upto copyingLinesSpec)) copyingLinesUptoCard

/-- THE SECOND FORM's CARD OF 'pileuplaw04.CopyingExact'. -/
def copyingExactUptoCard : Claim7 := { stood := { row := copyingExactUptoRow, standIns := [], harness := (true, "e2ef424b61ad81e65def9ad5c88726167da06c5e72ce0086e467cfc4df294388"), looks := true }, kinds := [], alts := [], laidByText := true, laidKinds := [.data, .data, .data], laidTests := true, laidLooks := .later }
def CopyingExactUptoCardSaid : Prop := Claim7.holds Tryz.pinned (.plain (OpenSpec.upto copyingExactSpec)) copyingExactUptoCard

/-- THE SECOND FORM's CARD OF 'pileuplaw04.CopyingWitness'. -/
def copyingWitnessUptoCard : Claim7 := { stood := { row := copyingWitnessUptoRow, standIns := [], harness := (true, "e2ef424b61ad81e65def9ad5c88726167da06c5e72ce0086e467cfc4df294388"), looks := true }, kinds := [], alts := [], laidByText := true, laidKinds := [.data, .data, .data], laidTests := true, laidLooks := .later }
def CopyingWitnessUptoCardSaid : Prop := Claim7.holds Tryz.pinned (.plain (OpenSpec.upto copyingWitnessSpec)) copyingWitnessUptoCard

/-- THE SECOND FORM's CARD OF 'pileuplaw04.CopyingNearest'. -/
def copyingNearestUptoCard : Claim7 := { stood := { row := copyingNearestUptoRow, standIns := [], harness := (true, "e2ef424b61ad81e65def9ad5c88726167da06c5e72ce0086e467cfc4df294388"), looks := true }, kinds := [], alts := [], laidByText := true, laidKinds := [.data, .data, .data], laidTests := true, laidLooks := .later }
def CopyingNearestUptoCardSaid : Prop := Claim7.holds Tryz.pinned (.plain (OpenSpec.upto copyingNearestSpec)) copyingNearestUptoCard

/-- THE SECOND FORM's CARD OF 'pileuplaw04.CopyingBetter'. -/
def copyingBetterUptoCard : Claim7 := { stood := { row := copyingBetterUptoRow, standIns := [], harness := (true, "e2ef424b61ad81e65def9ad5c88726167da06c5e72ce0086e467cfc4df294388"), looks := true }, kinds := [], alts := [], laidByText := true, laidKinds := [.data, .data, .data], laidTests := true, laidLooks := .later }
def CopyingBetterUptoCardSaid : Prop := Claim7.holds Tryz.pinned (.plain (OpenSpec.upto copyingBetterSpec)) copyingBetterUptoCard

/-- THE SECOND FORM's CARD OF 'pileuplaw04.CopyingNumbers'. -/
def copyingNumbersUptoCard : Claim7 := { stood := { row := copyingNumbersUptoRow, standIns := [], harness := (true, "e2ef424b61ad81e65def9ad5c88726167da06c5e72ce0086e467cfc4df294388"), looks := true }, kinds := [], alts := [], laidByText := true, laidKinds := [.data, .data, .data, .data, .sentinel, .sentinel, .pinned], laidTests := true, laidLooks := .later }
def CopyingNumbersUptoCardSaid : Prop := Claim7.holds Tryz.pinned (.plain (OpenSpec.upto copyingNumbersSpec)) copyingNumbersUptoCard

/-- THE SECOND FORM's CARD OF 'pileuplaw04.CopyingFigures'. -/
def copyingFiguresUptoCard : Claim7 := { stood := { row := copyingFiguresUptoRow, standIns := [], harness := (true, "e2ef424b61ad81e65def9ad5c88726167da06c5e72ce0086e467cfc4df294388"), looks := true }, kinds := [], alts := [], laidByText := true, laidKinds := [.data, .data, .data, .data, .sentinel, .sentinel, .pinned], laidTests := true, laidLooks := .later }
def CopyingFiguresUptoCardSaid : Prop := Claim7.holds Tryz.pinned (.plain (OpenSpec.upto copyingFiguresSpec)) copyingFiguresUptoCard
end Rows
end Go.Proofs.YtgcddjgkieambaaGreatDoor
