/-
  DERIVED. GIVEN WITH THE SEED: THE CARDS: each row of YtlamogpdkmbeoaaGreatDoorRows.lean that lists a variable, with what it lists TIED to the program's text (the seventh form; the later family's looks); each row that meets fmt, with fmt's text TOLD by the authors' own Lean function (tested against real Go, not proved from fmt's source: count such statements apart). THE CARD IS WHAT COUNTS. Prove the row's statement (the work); the ties are given (YtlamogpdkmbeoaaGreatDoorTie.lean); close each card by the builder's one call (the guide's Derived/Test/ToyasCard.lean, 'card_holds'). Laid BY PROGRAM, IN A SANDBOX (cutbox-door.mjs). By AI agents, Wed Nov 11 2026. No macro, syntax, notation, axiom, sorry.
-/
import Derived.Test.YtlamogpdkmbeoaaGreatDoorRows
import GoSem.ClaimSeven
namespace Go.Proofs.YtlamogpdkmbeoaaGreatDoor
namespace Rows

/-- THE TIED CARD OF 'pileuplaw09.JudgesChain'. -/
def judgesChainCard : Claim7 := { stood := { row := judgesChainRow, standIns := [], harness := (true, "113ba5449ea48dc39ba4195291a360e0bd80f2b3fb1afb10e6aa051237a50ae8"), looks := true }, kinds := [], alts := [], laidByText := true, laidKinds := [.data, .pinned], laidTests := true, laidLooks := .later }
def JudgesChainCardSaid : Prop := Claim7.holds Tryz.pinned (.plain (OpenSpec.ofChange judgesChainSpec)) judgesChainCard

/-- THE TIED CARD OF 'pileuplaw09.JudgesDuos'. -/
def judgesDuosCard : Claim7 := { stood := { row := judgesDuosRow, standIns := [], harness := (true, "113ba5449ea48dc39ba4195291a360e0bd80f2b3fb1afb10e6aa051237a50ae8"), looks := true }, kinds := [], alts := [], laidByText := true, laidKinds := [.data, .pinned], laidTests := true, laidLooks := .later }
def JudgesDuosCardSaid : Prop := Claim7.holds Tryz.pinned (.plain (OpenSpec.ofChange judgesDuosSpec)) judgesDuosCard

/-- THE TIED CARD OF 'pileuplaw09.JudgesQuorum'. -/
def judgesQuorumCard : Claim7 := { stood := { row := judgesQuorumRow, standIns := [], harness := (true, "113ba5449ea48dc39ba4195291a360e0bd80f2b3fb1afb10e6aa051237a50ae8"), looks := true }, kinds := [], alts := [], laidByText := true, laidKinds := [.data, .pinned], laidTests := true, laidLooks := .later }
def JudgesQuorumCardSaid : Prop := Claim7.holds Tryz.pinned (.plain (OpenSpec.ofChange judgesQuorumSpec)) judgesQuorumCard

/-- THE TIED CARD OF 'pileuplaw09.JudgesRecords'. -/
def judgesRecordsCard : Claim7 := { stood := { row := judgesRecordsRow, standIns := [], harness := (true, "113ba5449ea48dc39ba4195291a360e0bd80f2b3fb1afb10e6aa051237a50ae8"), looks := true }, kinds := [], alts := [], laidByText := true, laidKinds := [.data, .pinned], laidTests := true, laidLooks := .later }
def JudgesRecordsCardSaid : Prop := Claim7.holds Tryz.pinned (.plain (OpenSpec.ofChange judgesRecordsSpec)) judgesRecordsCard

/-- THE TIED CARD OF 'pileuplaw09.JudgesByte'. -/
def judgesByteCard : Claim7 := { stood := { row := judgesByteRow, standIns := [], harness := (true, "113ba5449ea48dc39ba4195291a360e0bd80f2b3fb1afb10e6aa051237a50ae8"), looks := true }, kinds := [], alts := [], laidByText := true, laidKinds := [.data, .pinned], laidTests := true, laidLooks := .later }
def JudgesByteCardSaid : Prop := Claim7.holds Tryz.pinned (.plain (OpenSpec.ofChange judgesByteSpec)) judgesByteCard

/-- THE TIED CARD OF 'pileuplaw09.JudgesKnown'. -/
def judgesKnownCard : Claim7 := { stood := { row := judgesKnownRow, standIns := [], harness := (true, "113ba5449ea48dc39ba4195291a360e0bd80f2b3fb1afb10e6aa051237a50ae8"), looks := true }, kinds := [], alts := [], laidByText := true, laidKinds := [.data, .pinned], laidTests := true, laidLooks := .later }
def JudgesKnownCardSaid : Prop := Claim7.holds Tryz.pinned (.plain (OpenSpec.ofChange judgesKnownSpec)) judgesKnownCard

/-- THE TIED CARD OF 'pileuplaw09.JudgesUnion'. -/
def judgesUnionCard : Claim7 := { stood := { row := judgesUnionRow, standIns := [], harness := (true, "113ba5449ea48dc39ba4195291a360e0bd80f2b3fb1afb10e6aa051237a50ae8"), looks := true }, kinds := [], alts := [], laidByText := true, laidKinds := [.data, .pinned], laidTests := true, laidLooks := .later }
def JudgesUnionCardSaid : Prop := Claim7.holds Tryz.pinned (.plain (OpenSpec.ofChange judgesUnionSpec)) judgesUnionCard

/-- THE TIED CARD OF 'pileuplaw09.JudgesVersions'. -/
def judgesVersionsCard : Claim7 := { stood := { row := judgesVersionsRow, standIns := [], harness := (true, "113ba5449ea48dc39ba4195291a360e0bd80f2b3fb1afb10e6aa051237a50ae8"), looks := true }, kinds := [], alts := [], laidByText := true, laidKinds := [.data, .pinned], laidTests := true, laidLooks := .later }
def JudgesVersionsCardSaid : Prop := Claim7.holds Tryz.pinned (.plain (OpenSpec.ofChange judgesVersionsSpec)) judgesVersionsCard

/-- THE SECOND FORM's CARD OF 'pileuplaw09.JudgesChain'. -/
def judgesChainUptoCard : Claim7 := { stood := { row := judgesChainUptoRow, standIns := [], harness := (true, "113ba5449ea48dc39ba4195291a360e0bd80f2b3fb1afb10e6aa051237a50ae8"), looks := true }, kinds := [], alts := [], laidByText := true, laidKinds := [.data, .pinned], laidTests := true, laidLooks := .later }
def JudgesChainUptoCardSaid : Prop := Claim7.holds Tryz.pinned (.plain (OpenSpec.upto judgesChainSpec)) judgesChainUptoCard

/-- THE SECOND FORM's CARD OF 'pileuplaw09.JudgesDuos'. -/
def judgesDuosUptoCard : Claim7 := { stood := { row := judgesDuosUptoRow, standIns := [], harness := (true, "113ba5449ea48dc39ba4195291a360e0bd80f2b3fb1afb10e6aa051237a50ae8"), looks := true }, kinds := [], alts := [], laidByText := true, laidKinds := [.data, .pinned], laidTests := true, laidLooks := .later }
def JudgesDuosUptoCardSaid : Prop := Claim7.holds Tryz.pinned (.plain (OpenSpec.upto judgesDuosSpec)) judgesDuosUptoCard

/-- THE SECOND FORM's CARD OF 'pileuplaw09.JudgesQuorum'. -/
def judgesQuorumUptoCard : Claim7 := { stood := { row := judgesQuorumUptoRow, standIns := [], harness := (true, "113ba5449ea48dc39ba4195291a360e0bd80f2b3fb1afb10e6aa051237a50ae8"), looks := true }, kinds := [], alts := [], laidByText := true, laidKinds := [.data, .pinned], laidTests := true, laidLooks := .later }
def JudgesQuorumUptoCardSaid : Prop := Claim7.holds Tryz.pinned (.plain (OpenSpec.upto judgesQuorumSpec)) judgesQuorumUptoCard

/-- THE SECOND FORM's CARD OF 'pileuplaw09.JudgesRecords'. -/
def judgesRecordsUptoCard : Claim7 := { stood := { row := judgesRecordsUptoRow, standIns := [], harness := (true, "113ba5449ea48dc39ba4195291a360e0bd80f2b3fb1afb10e6aa051237a50ae8"), looks := true }, kinds := [], alts := [], laidByText := true, laidKinds := [.data, .pinned], laidTests := true, laidLooks := .later }
def JudgesRecordsUptoCardSaid : Prop := Claim7.holds Tryz.pinned (.plain (OpenSpec.upto judgesRecordsSpec)) judgesRecordsUptoCard

/-- THE SECOND FORM's CARD OF 'pileuplaw09.JudgesByte'. -/
def judgesByteUptoCard : Claim7 := { stood := { row := judgesByteUptoRow, standIns := [], harness := (true, "113ba5449ea48dc39ba4195291a360e0bd80f2b3fb1afb10e6aa051237a50ae8"), looks := true }, kinds := [], alts := [], laidByText := true, laidKinds := [.data, .pinned], laidTests := true, laidLooks := .later }
def JudgesByteUptoCardSaid : Prop := Claim7.holds Tryz.pinned (.plain (OpenSpec.upto judgesByteSpec)) judgesByteUptoCard

/-- THE SECOND FORM's CARD OF 'pileuplaw09.JudgesKnown'. -/
def judgesKnownUptoCard : Claim7 := { stood := { row := judgesKnownUptoRow, standIns := [], harness := (true, "113ba5449ea48dc39ba4195291a360e0bd80f2b3fb1afb10e6aa051237a50ae8"), looks := true }, kinds := [], alts := [], laidByText := true, laidKinds := [.data, .pinned], laidTests := true, laidLooks := .later }
def JudgesKnownUptoCardSaid : Prop := Claim7.holds Tryz.pinned (.plain (OpenSpec.upto judgesKnownSpec)) judgesKnownUptoCard

/-- THE SECOND FORM's CARD OF 'pileuplaw09.JudgesUnion'. -/
def judgesUnionUptoCard : Claim7 := { stood := { row := judgesUnionUptoRow, standIns := [], harness := (true, "113ba5449ea48dc39ba4195291a360e0bd80f2b3fb1afb10e6aa051237a50ae8"), looks := true }, kinds := [], alts := [], laidByText := true, laidKinds := [.data, .pinned], laidTests := true, laidLooks := .later }
def JudgesUnionUptoCardSaid : Prop := Claim7.holds Tryz.pinned (.plain (OpenSpec.upto judgesUnionSpec)) judgesUnionUptoCard

/-- THE SECOND FORM's CARD OF 'pileuplaw09.JudgesVersions'. -/
def judgesVersionsUptoCard : Claim7 := { stood := { row := judgesVersionsUptoRow, standIns := [], harness := (true, "113ba5449ea48dc39ba4195291a360e0bd80f2b3fb1afb10e6aa051237a50ae8"), looks := true }, kinds := [], alts := [], laidByText := true, laidKinds := [.data, .pinned], laidTests := true, laidLooks := .later }
def JudgesVersionsUptoCardSaid : Prop := Claim7.holds Tryz.pinned (.plain (OpenSpec.upto judgesVersionsSpec)) judgesVersionsUptoCard
end Rows
end Go.Proofs.YtlamogpdkmbeoaaGreatDoor
