/-
  NARROWER THAN 'FOR EVERY INPUT', by the rows' own cells (each row's printed sentence says how): JudgesChain: laid · JudgesDuos: laid · JudgesQuorum: laid · JudgesRecords: laid · JudgesByte: laid · JudgesKnown: laid · JudgesUnion: laid · JudgesVersions: laid.
  DERIVED. THE GIVEN ROWS OF THIS SEAT. 8 by the template 'for every input the law returns true; each argument reads behind the call as it read before'; 0 by the template 'total and deterministic' (their statements: YtlamogpdkmbeoaaGreatDoorTotals.lean).
  GIVEN WITH THE SEED: the statements are not yours to turn. If you find one false, say at which input.
  Laid BY PROGRAM, IN A SANDBOX (cutbox-rows.mjs): the forced cells as the released guide's own fill.sh prints them over the translation 465ec406ba82ef2f… (all of the seat's roots in one cut). By AI agents, Wed Nov 11 2026. No macro, syntax, notation, axiom, sorry.
-/
import Derived.Test.YtlamogpdkmbeoaaGreatDoorChecked
import GoSem.PinnedTables
import GoSem.Claim
import GoSem.ClaimJoined
import GoSem.ClaimMapViews
import Derived.JoinedTies
import Derived.KernelRfl
namespace Go.Proofs.YtlamogpdkmbeoaaGreatDoor
/- THE CELL 'sum', in the pinned program and in every row, IS THE sha256 OF THE DUMP (.gsa) THAT YtlamogpdkmbeoaaGreatDoorProg.lean LOADS. Nothing in Lean hashes anything: it is a label: what it is worth is what the hold of that sum in a sandbox is worth. -/
noncomputable def Tryz.pinned : Pinned := { name := "ytlamogpdkmbeoaagreatdoor", sum := "465ec406ba82ef2f0f275268d00e8929a56d3c7f191a18aef503f52657650a21", checked := Tryz.checked }
namespace Rows
def none {H : Type} : Left H := { results := [], args := [] }

/- WHAT THE LISTED PACKAGE-LEVEL VARIABLES READ AS WHEN THE CALL BEGINS. Each datum BY PROGRAM (the guide's laid-datum.mjs) off the statement by which the dump's own 'gosem.cut.vars' lays the variable. In a bare row this is a premise. The card (YtlamogpdkmbeoaaGreatDoorCards.lean) ties it to the program's text. -/
def laid_unicode_utf8_acceptRanges {H : Type} : DataW H := .agg [.agg [.lit (.int .u8 128), .lit (.int .u8 191)], .agg [.lit (.int .u8 160), .lit (.int .u8 191)], .agg [.lit (.int .u8 128), .lit (.int .u8 159)], .agg [.lit (.int .u8 144), .lit (.int .u8 191)], .agg [.lit (.int .u8 128), .lit (.int .u8 143)], .agg [.lit (.int .u8 0), .lit (.int .u8 0)], .agg [.lit (.int .u8 0), .lit (.int .u8 0)], .agg [.lit (.int .u8 0), .lit (.int .u8 0)], .agg [.lit (.int .u8 0), .lit (.int .u8 0)], .agg [.lit (.int .u8 0), .lit (.int .u8 0)], .agg [.lit (.int .u8 0), .lit (.int .u8 0)], .agg [.lit (.int .u8 0), .lit (.int .u8 0)], .agg [.lit (.int .u8 0), .lit (.int .u8 0)], .agg [.lit (.int .u8 0), .lit (.int .u8 0)], .agg [.lit (.int .u8 0), .lit (.int .u8 0)], .agg [.lit (.int .u8 0), .lit (.int .u8 0)]]
/-- One of Go's own tables, pinned by name: the form's constant. -/
def laid_unicode_utf8_first : DataW Unit := Go.Pinned.utf8First

/-- 'pileuplaw09.JudgesChain': WHATEVER THE INPUT: true; the input reads as it did. -/
def judgesChainSpec : ChangeSpec := { name := "judgesChain", fn := fun _ => fun
  | [d1, d2] => { results := [.lit (.bool true)], args := [d1, d2] }
  | _ => none }
def judgesChainRow : OpenClaim := { program := "ytlamogpdkmbeoaagreatdoor", sum := "465ec406ba82ef2f0f275268d00e8929a56d3c7f191a18aef503f52657650a21", func := "pileup/pileuplaw09.JudgesChain", spec := "judgesChain", inPlace := ["internal/bytealg.CountString", "internal/bytealg.IndexByteString", "internal/bytealg.IndexString", "maps.clone"], unfollowed := true, recurses := true, named := ["unicode/utf8.first", "unicode/utf8.acceptRanges", "internal/bytealg.MaxLen"], plainKeys := false, apart := false, laid := [("unicode/utf8.acceptRanges", laid_unicode_utf8_acceptRanges), ("unicode/utf8.first", laid_unicode_utf8_first)] }
def JudgesChainSaid : Prop := judgesChainRow.holds Tryz.pinned (OpenSpec.ofChange judgesChainSpec)

/-- ITS FALSE NEIGHBOUR: 'it returns false'. Refute it at one input. -/
def judgesChainWrong : ChangeSpec := { name := "judgesChain", fn := fun _ => fun
  | [d1, d2] => { results := [.lit (.bool false)], args := [d1, d2] }
  | _ => none }
def JudgesChainWrongFalsely : Prop := judgesChainRow.holds Tryz.pinned (OpenSpec.ofChange judgesChainWrong)

/-- 'pileuplaw09.JudgesDuos': WHATEVER THE INPUT: true; the input reads as it did. -/
def judgesDuosSpec : ChangeSpec := { name := "judgesDuos", fn := fun _ => fun
  | [d1, d2, d3] => { results := [.lit (.bool true)], args := [d1, d2, d3] }
  | _ => none }
def judgesDuosRow : OpenClaim := { program := "ytlamogpdkmbeoaagreatdoor", sum := "465ec406ba82ef2f0f275268d00e8929a56d3c7f191a18aef503f52657650a21", func := "pileup/pileuplaw09.JudgesDuos", spec := "judgesDuos", inPlace := ["internal/bytealg.CountString", "internal/bytealg.IndexByteString", "internal/bytealg.IndexString", "maps.clone"], unfollowed := true, recurses := true, named := ["unicode/utf8.first", "unicode/utf8.acceptRanges", "internal/bytealg.MaxLen"], plainKeys := false, apart := false, laid := [("unicode/utf8.acceptRanges", laid_unicode_utf8_acceptRanges), ("unicode/utf8.first", laid_unicode_utf8_first)] }
def JudgesDuosSaid : Prop := judgesDuosRow.holds Tryz.pinned (OpenSpec.ofChange judgesDuosSpec)

/-- ITS FALSE NEIGHBOUR: 'it returns false'. Refute it at one input. -/
def judgesDuosWrong : ChangeSpec := { name := "judgesDuos", fn := fun _ => fun
  | [d1, d2, d3] => { results := [.lit (.bool false)], args := [d1, d2, d3] }
  | _ => none }
def JudgesDuosWrongFalsely : Prop := judgesDuosRow.holds Tryz.pinned (OpenSpec.ofChange judgesDuosWrong)

/-- 'pileuplaw09.JudgesQuorum': WHATEVER THE INPUT: true; the input reads as it did. -/
def judgesQuorumSpec : ChangeSpec := { name := "judgesQuorum", fn := fun _ => fun
  | [d1, d2, d3, d4] => { results := [.lit (.bool true)], args := [d1, d2, d3, d4] }
  | _ => none }
def judgesQuorumRow : OpenClaim := { program := "ytlamogpdkmbeoaagreatdoor", sum := "465ec406ba82ef2f0f275268d00e8929a56d3c7f191a18aef503f52657650a21", func := "pileup/pileuplaw09.JudgesQuorum", spec := "judgesQuorum", inPlace := ["internal/bytealg.CountString", "internal/bytealg.IndexByteString", "internal/bytealg.IndexString", "maps.clone"], unfollowed := true, recurses := true, named := ["unicode/utf8.first", "unicode/utf8.acceptRanges", "internal/bytealg.MaxLen"], plainKeys := false, apart := false, laid := [("unicode/utf8.acceptRanges", laid_unicode_utf8_acceptRanges), ("unicode/utf8.first", laid_unicode_utf8_first)] }
def JudgesQuorumSaid : Prop := judgesQuorumRow.holds Tryz.pinned (OpenSpec.ofChange judgesQuorumSpec)

/-- ITS FALSE NEIGHBOUR: 'it returns false'. Refute it at one input. -/
def judgesQuorumWrong : ChangeSpec := { name := "judgesQuorum", fn := fun _ => fun
  | [d1, d2, d3, d4] => { results := [.lit (.bool false)], args := [d1, d2, d3, d4] }
  | _ => none }
def JudgesQuorumWrongFalsely : Prop := judgesQuorumRow.holds Tryz.pinned (OpenSpec.ofChange judgesQuorumWrong)

/-- 'pileuplaw09.JudgesRecords': WHATEVER THE INPUT: true; the input reads as it did. -/
def judgesRecordsSpec : ChangeSpec := { name := "judgesRecords", fn := fun _ => fun
  | [d1, d2, d3] => { results := [.lit (.bool true)], args := [d1, d2, d3] }
  | _ => none }
def judgesRecordsRow : OpenClaim := { program := "ytlamogpdkmbeoaagreatdoor", sum := "465ec406ba82ef2f0f275268d00e8929a56d3c7f191a18aef503f52657650a21", func := "pileup/pileuplaw09.JudgesRecords", spec := "judgesRecords", inPlace := ["internal/bytealg.CountString", "internal/bytealg.IndexByteString", "internal/bytealg.IndexString", "maps.clone"], unfollowed := true, recurses := true, named := ["unicode/utf8.first", "unicode/utf8.acceptRanges", "internal/bytealg.MaxLen"], plainKeys := false, apart := false, laid := [("unicode/utf8.acceptRanges", laid_unicode_utf8_acceptRanges), ("unicode/utf8.first", laid_unicode_utf8_first)] }
def JudgesRecordsSaid : Prop := judgesRecordsRow.holds Tryz.pinned (OpenSpec.ofChange judgesRecordsSpec)

/-- ITS FALSE NEIGHBOUR: 'it returns false'. Refute it at one input. -/
def judgesRecordsWrong : ChangeSpec := { name := "judgesRecords", fn := fun _ => fun
  | [d1, d2, d3] => { results := [.lit (.bool false)], args := [d1, d2, d3] }
  | _ => none }
def JudgesRecordsWrongFalsely : Prop := judgesRecordsRow.holds Tryz.pinned (OpenSpec.ofChange judgesRecordsWrong)

/-- 'pileuplaw09.JudgesByte': WHATEVER THE INPUT: true; the input reads as it did. -/
def judgesByteSpec : ChangeSpec := { name := "judgesByte", fn := fun _ => fun
  | [d1, d2, d3] => { results := [.lit (.bool true)], args := [d1, d2, d3] }
  | _ => none }
def judgesByteRow : OpenClaim := { program := "ytlamogpdkmbeoaagreatdoor", sum := "465ec406ba82ef2f0f275268d00e8929a56d3c7f191a18aef503f52657650a21", func := "pileup/pileuplaw09.JudgesByte", spec := "judgesByte", inPlace := ["internal/bytealg.CountString", "internal/bytealg.IndexByteString", "internal/bytealg.IndexString", "maps.clone"], unfollowed := true, recurses := true, named := ["unicode/utf8.first", "unicode/utf8.acceptRanges", "internal/bytealg.MaxLen"], plainKeys := false, apart := false, laid := [("unicode/utf8.acceptRanges", laid_unicode_utf8_acceptRanges), ("unicode/utf8.first", laid_unicode_utf8_first)] }
def JudgesByteSaid : Prop := judgesByteRow.holds Tryz.pinned (OpenSpec.ofChange judgesByteSpec)

/-- ITS FALSE NEIGHBOUR: 'it returns false'. Refute it at one input. -/
def judgesByteWrong : ChangeSpec := { name := "judgesByte", fn := fun _ => fun
  | [d1, d2, d3] => { results := [.lit (.bool false)], args := [d1, d2, d3] }
  | _ => none }
def JudgesByteWrongFalsely : Prop := judgesByteRow.holds Tryz.pinned (OpenSpec.ofChange judgesByteWrong)

/-- 'pileuplaw09.JudgesKnown': WHATEVER THE INPUT: true; the input reads as it did. -/
def judgesKnownSpec : ChangeSpec := { name := "judgesKnown", fn := fun _ => fun
  | [d1, d2, d3, d4, d5] => { results := [.lit (.bool true)], args := [d1, d2, d3, d4, d5] }
  | _ => none }
def judgesKnownRow : OpenClaim := { program := "ytlamogpdkmbeoaagreatdoor", sum := "465ec406ba82ef2f0f275268d00e8929a56d3c7f191a18aef503f52657650a21", func := "pileup/pileuplaw09.JudgesKnown", spec := "judgesKnown", inPlace := ["internal/bytealg.CountString", "internal/bytealg.IndexByteString", "internal/bytealg.IndexString", "maps.clone"], unfollowed := true, recurses := true, named := ["unicode/utf8.first", "unicode/utf8.acceptRanges", "internal/bytealg.MaxLen"], plainKeys := false, apart := false, laid := [("unicode/utf8.acceptRanges", laid_unicode_utf8_acceptRanges), ("unicode/utf8.first", laid_unicode_utf8_first)] }
def JudgesKnownSaid : Prop := judgesKnownRow.holds Tryz.pinned (OpenSpec.ofChange judgesKnownSpec)

/-- ITS FALSE NEIGHBOUR: 'it returns false'. Refute it at one input. -/
def judgesKnownWrong : ChangeSpec := { name := "judgesKnown", fn := fun _ => fun
  | [d1, d2, d3, d4, d5] => { results := [.lit (.bool false)], args := [d1, d2, d3, d4, d5] }
  | _ => none }
def JudgesKnownWrongFalsely : Prop := judgesKnownRow.holds Tryz.pinned (OpenSpec.ofChange judgesKnownWrong)

/-- 'pileuplaw09.JudgesUnion': WHATEVER THE INPUT: true; the input reads as it did. -/
def judgesUnionSpec : ChangeSpec := { name := "judgesUnion", fn := fun _ => fun
  | [d1, d2, d3, d4] => { results := [.lit (.bool true)], args := [d1, d2, d3, d4] }
  | _ => none }
def judgesUnionRow : OpenClaim := { program := "ytlamogpdkmbeoaagreatdoor", sum := "465ec406ba82ef2f0f275268d00e8929a56d3c7f191a18aef503f52657650a21", func := "pileup/pileuplaw09.JudgesUnion", spec := "judgesUnion", inPlace := ["internal/bytealg.CountString", "internal/bytealg.IndexByteString", "internal/bytealg.IndexString", "maps.clone"], unfollowed := true, recurses := true, named := ["unicode/utf8.first", "unicode/utf8.acceptRanges", "internal/bytealg.MaxLen"], plainKeys := false, apart := false, laid := [("unicode/utf8.acceptRanges", laid_unicode_utf8_acceptRanges), ("unicode/utf8.first", laid_unicode_utf8_first)] }
def JudgesUnionSaid : Prop := judgesUnionRow.holds Tryz.pinned (OpenSpec.ofChange judgesUnionSpec)

/-- ITS FALSE NEIGHBOUR: 'it returns false'. Refute it at one input. -/
def judgesUnionWrong : ChangeSpec := { name := "judgesUnion", fn := fun _ => fun
  | [d1, d2, d3, d4] => { results := [.lit (.bool false)], args := [d1, d2, d3, d4] }
  | _ => none }
def JudgesUnionWrongFalsely : Prop := judgesUnionRow.holds Tryz.pinned (OpenSpec.ofChange judgesUnionWrong)

/-- 'pileuplaw09.JudgesVersions': WHATEVER THE INPUT: true; the input reads as it did. -/
def judgesVersionsSpec : ChangeSpec := { name := "judgesVersions", fn := fun _ => fun
  | [d1, d2, d3, d4] => { results := [.lit (.bool true)], args := [d1, d2, d3, d4] }
  | _ => none }
def judgesVersionsRow : OpenClaim := { program := "ytlamogpdkmbeoaagreatdoor", sum := "465ec406ba82ef2f0f275268d00e8929a56d3c7f191a18aef503f52657650a21", func := "pileup/pileuplaw09.JudgesVersions", spec := "judgesVersions", inPlace := ["internal/bytealg.CountString", "internal/bytealg.IndexByteString", "internal/bytealg.IndexString", "maps.clone"], unfollowed := true, recurses := true, named := ["unicode/utf8.first", "unicode/utf8.acceptRanges", "internal/bytealg.MaxLen"], plainKeys := false, apart := false, laid := [("unicode/utf8.acceptRanges", laid_unicode_utf8_acceptRanges), ("unicode/utf8.first", laid_unicode_utf8_first)] }
def JudgesVersionsSaid : Prop := judgesVersionsRow.holds Tryz.pinned (OpenSpec.ofChange judgesVersionsSpec)

/-- ITS FALSE NEIGHBOUR: 'it returns false'. Refute it at one input. -/
def judgesVersionsWrong : ChangeSpec := { name := "judgesVersions", fn := fun _ => fun
  | [d1, d2, d3, d4] => { results := [.lit (.bool false)], args := [d1, d2, d3, d4] }
  | _ => none }
def JudgesVersionsWrongFalsely : Prop := judgesVersionsRow.holds Tryz.pinned (OpenSpec.ofChange judgesVersionsWrong)

/- THE SECOND FORM. 'bulk': how many values and letters a reading holds, each counted each time it is reached (what is shared counts as often as it is met; a slice's spare places count too). A statement '..UptoSaid' is the law's where the arguments, and the package variables that the reading takes, are together of bulk at most 1048576: NARROWER than '..Said'. Prove '..Said' where nothing that the law and all that it calls make is longer than what came in: it says more and counts as full. Else prove '..UptoSaid'. A law counts once. -/
mutual
def uptoBulk {H : Type} : DataW H → Nat
  | .lit (.string bytes) => bytes.length + 1
  | .lit _ => 1
  | .nil => 1
  | .ptr d => uptoBulk d + 1
  | .slice elems spare => uptoBulkAll elems + uptoBulkAll spare + 1
  | .agg parts => uptoBulkAll parts + 1
  | .iface _ d => uptoBulk d + 1
  | .map entries => uptoBulkEntries entries + 1
  | .held _ => 1
def uptoBulkAll {H : Type} : List (DataW H) → Nat
  | [] => 0
  | d :: r => uptoBulk d + uptoBulkAll r
def uptoBulkEntries {H : Type} : List (Lit × DataW H) → Nat
  | [] => 0
  | x :: r => uptoBulkEntry x + uptoBulkEntries r
def uptoBulkEntry {H : Type} : Lit × DataW H → Nat
  | (.string bytes, d) => bytes.length + uptoBulk d + 1
  | (_, d) => uptoBulk d + 1
 end
def uptoSmall : (H : Type) → List (DataW H) → Bool := fun _ ds => decide (uptoBulkAll ds ≤ 1048576)
def OpenSpec.upto (s : _root_.Go.ChangeSpec) : _root_.Go.OpenSpec := { _root_.Go.OpenSpec.ofChange s with cond := some uptoSmall }

/-- 'pileuplaw09.JudgesChain', WHERE WHAT IT READS IS OF BULK AT MOST 1048576: true; the input reads as it did. -/
def judgesChainUptoRow : OpenClaim := { program := "ytlamogpdkmbeoaagreatdoor", sum := "465ec406ba82ef2f0f275268d00e8929a56d3c7f191a18aef503f52657650a21", func := "pileup/pileuplaw09.JudgesChain", spec := "judgesChain", inPlace := ["internal/bytealg.CountString", "internal/bytealg.IndexByteString", "internal/bytealg.IndexString", "maps.clone"], unfollowed := true, recurses := true, named := ["unicode/utf8.first", "unicode/utf8.acceptRanges", "internal/bytealg.MaxLen"], plainKeys := false, apart := false, laid := [("unicode/utf8.acceptRanges", laid_unicode_utf8_acceptRanges), ("unicode/utf8.first", laid_unicode_utf8_first)], narrowed := true }
def JudgesChainUptoSaid : Prop := judgesChainUptoRow.holds Tryz.pinned (OpenSpec.upto judgesChainSpec)

/-- 'pileuplaw09.JudgesDuos', WHERE WHAT IT READS IS OF BULK AT MOST 1048576: true; the input reads as it did. -/
def judgesDuosUptoRow : OpenClaim := { program := "ytlamogpdkmbeoaagreatdoor", sum := "465ec406ba82ef2f0f275268d00e8929a56d3c7f191a18aef503f52657650a21", func := "pileup/pileuplaw09.JudgesDuos", spec := "judgesDuos", inPlace := ["internal/bytealg.CountString", "internal/bytealg.IndexByteString", "internal/bytealg.IndexString", "maps.clone"], unfollowed := true, recurses := true, named := ["unicode/utf8.first", "unicode/utf8.acceptRanges", "internal/bytealg.MaxLen"], plainKeys := false, apart := false, laid := [("unicode/utf8.acceptRanges", laid_unicode_utf8_acceptRanges), ("unicode/utf8.first", laid_unicode_utf8_first)], narrowed := true }
def JudgesDuosUptoSaid : Prop := judgesDuosUptoRow.holds Tryz.pinned (OpenSpec.upto judgesDuosSpec)

/-- 'pileuplaw09.JudgesQuorum', WHERE WHAT IT READS IS OF BULK AT MOST 1048576: true; the input reads as it did. -/
def judgesQuorumUptoRow : OpenClaim := { program := "ytlamogpdkmbeoaagreatdoor", sum := "465ec406ba82ef2f0f275268d00e8929a56d3c7f191a18aef503f52657650a21", func := "pileup/pileuplaw09.JudgesQuorum", spec := "judgesQuorum", inPlace := ["internal/bytealg.CountString", "internal/bytealg.IndexByteString", "internal/bytealg.IndexString", "maps.clone"], unfollowed := true, recurses := true, named := ["unicode/utf8.first", "unicode/utf8.acceptRanges", "internal/bytealg.MaxLen"], plainKeys := false, apart := false, laid := [("unicode/utf8.acceptRanges", laid_unicode_utf8_acceptRanges), ("unicode/utf8.first", laid_unicode_utf8_first)], narrowed := true }
def JudgesQuorumUptoSaid : Prop := judgesQuorumUptoRow.holds Tryz.pinned (OpenSpec.upto judgesQuorumSpec)

/-- 'pileuplaw09.JudgesRecords', WHERE WHAT IT READS IS OF BULK AT MOST 1048576: true; the input reads as it did. -/
def judgesRecordsUptoRow : OpenClaim := { program := "ytlamogpdkmbeoaagreatdoor", sum := "465ec406ba82ef2f0f275268d00e8929a56d3c7f191a18aef503f52657650a21", func := "pileup/pileuplaw09.JudgesRecords", spec := "judgesRecords", inPlace := ["internal/bytealg.CountString", "internal/bytealg.IndexByteString", "internal/bytealg.IndexString", "maps.clone"], unfollowed := true, recurses := true, named := ["unicode/utf8.first", "unicode/utf8.acceptRanges", "internal/bytealg.MaxLen"], plainKeys := false, apart := false, laid := [("unicode/utf8.acceptRanges", laid_unicode_utf8_acceptRanges), ("unicode/utf8.first", laid_unicode_utf8_first)], narrowed := true }
def JudgesRecordsUptoSaid : Prop := judgesRecordsUptoRow.holds Tryz.pinned (OpenSpec.upto judgesRecordsSpec)

/-- 'pileuplaw09.JudgesByte', WHERE WHAT IT READS IS OF BULK AT MOST 1048576: true; the input reads as it did. -/
def judgesByteUptoRow : OpenClaim := { program := "ytlamogpdkmbeoaagreatdoor", sum := "465ec406ba82ef2f0f275268d00e8929a56d3c7f191a18aef503f52657650a21", func := "pileup/pileuplaw09.JudgesByte", spec := "judgesByte", inPlace := ["internal/bytealg.CountString", "internal/bytealg.IndexByteString", "internal/bytealg.IndexString", "maps.clone"], unfollowed := true, recurses := true, named := ["unicode/utf8.first", "unicode/utf8.acceptRanges", "internal/bytealg.MaxLen"], plainKeys := false, apart := false, laid := [("unicode/utf8.acceptRanges", laid_unicode_utf8_acceptRanges), ("unicode/utf8.first", laid_unicode_utf8_first)], narrowed := true }
def JudgesByteUptoSaid : Prop := judgesByteUptoRow.holds Tryz.pinned (OpenSpec.upto judgesByteSpec)

/-- 'pileuplaw09.JudgesKnown', WHERE WHAT IT READS IS OF BULK AT MOST 1048576: true; the input reads as it did. -/
def judgesKnownUptoRow : OpenClaim := { program := "ytlamogpdkmbeoaagreatdoor", sum := "465ec406ba82ef2f0f275268d00e8929a56d3c7f191a18aef503f52657650a21", func := "pileup/pileuplaw09.JudgesKnown", spec := "judgesKnown", inPlace := ["internal/bytealg.CountString", "internal/bytealg.IndexByteString", "internal/bytealg.IndexString", "maps.clone"], unfollowed := true, recurses := true, named := ["unicode/utf8.first", "unicode/utf8.acceptRanges", "internal/bytealg.MaxLen"], plainKeys := false, apart := false, laid := [("unicode/utf8.acceptRanges", laid_unicode_utf8_acceptRanges), ("unicode/utf8.first", laid_unicode_utf8_first)], narrowed := true }
def JudgesKnownUptoSaid : Prop := judgesKnownUptoRow.holds Tryz.pinned (OpenSpec.upto judgesKnownSpec)

/-- 'pileuplaw09.JudgesUnion', WHERE WHAT IT READS IS OF BULK AT MOST 1048576: true; the input reads as it did. -/
def judgesUnionUptoRow : OpenClaim := { program := "ytlamogpdkmbeoaagreatdoor", sum := "465ec406ba82ef2f0f275268d00e8929a56d3c7f191a18aef503f52657650a21", func := "pileup/pileuplaw09.JudgesUnion", spec := "judgesUnion", inPlace := ["internal/bytealg.CountString", "internal/bytealg.IndexByteString", "internal/bytealg.IndexString", "maps.clone"], unfollowed := true, recurses := true, named := ["unicode/utf8.first", "unicode/utf8.acceptRanges", "internal/bytealg.MaxLen"], plainKeys := false, apart := false, laid := [("unicode/utf8.acceptRanges", laid_unicode_utf8_acceptRanges), ("unicode/utf8.first", laid_unicode_utf8_first)], narrowed := true }
def JudgesUnionUptoSaid : Prop := judgesUnionUptoRow.holds Tryz.pinned (OpenSpec.upto judgesUnionSpec)

/-- 'pileuplaw09.JudgesVersions', WHERE WHAT IT READS IS OF BULK AT MOST 1048576: true; the input reads as it did. -/
def judgesVersionsUptoRow : OpenClaim := { program := "ytlamogpdkmbeoaagreatdoor", sum := "465ec406ba82ef2f0f275268d00e8929a56d3c7f191a18aef503f52657650a21", func := "pileup/pileuplaw09.JudgesVersions", spec := "judgesVersions", inPlace := ["internal/bytealg.CountString", "internal/bytealg.IndexByteString", "internal/bytealg.IndexString", "maps.clone"], unfollowed := true, recurses := true, named := ["unicode/utf8.first", "unicode/utf8.acceptRanges", "internal/bytealg.MaxLen"], plainKeys := false, apart := false, laid := [("unicode/utf8.acceptRanges", laid_unicode_utf8_acceptRanges), ("unicode/utf8.first", laid_unicode_utf8_first)], narrowed := true }
def JudgesVersionsUptoSaid : Prop := judgesVersionsUptoRow.holds Tryz.pinned (OpenSpec.upto judgesVersionsSpec)

end Rows
end Go.Proofs.YtlamogpdkmbeoaaGreatDoor
