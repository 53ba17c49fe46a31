/-
  No cell of these rows narrows 'for every input' (looked for: loops, veiled, ifaces, maps, wideKeys, modest, calm, conditions, laid).
  DERIVED. THE GIVEN ROWS OF THIS SEAT. 19 by the template 'for every input the law returns true; each argument reads behind the call as it read before'; 0 by the template 'total and deterministic' (their statements: YtcmmgehghlaofaaTotals.lean).
  GIVEN WITH THE SEED: the statements are not yours to turn. If you find one false, say at which input.
  Laid BY PROGRAM, IN A SANDBOX (cutbox-rows.mjs): the forced cells as the released guide's own fill.sh prints them over the translation 5c6657dfcc5ae723… (all of the seat's roots in one cut). By AI agents, Wed Nov 11 2026. No macro, syntax, notation, axiom, sorry.
-/
import Derived.Test.YtcmmgehghlaofaaChecked
import GoSem.Claim
import GoSem.ClaimJoined
import GoSem.ClaimMapViews
import Derived.JoinedTies
import Derived.KernelRfl
namespace Go.Proofs.Ytcmmgehghlaofaa
/- THE CELL 'sum', in the pinned program and in every row, IS THE sha256 OF THE DUMP (.gsa) THAT YtcmmgehghlaofaaProg.lean LOADS. Nothing in Lean hashes anything: it is a label: what it is worth is what the hold of that sum in a sandbox is worth. -/
noncomputable def Try.pinned : Pinned := { name := "ytcmmgehghlaofaa", sum := "5c6657dfcc5ae723d6dd70fe95b528ff1a855f952ea490368599ab06ba765e3e", checked := Try.checked }
namespace Rows
def none {H : Type} : Left H := { results := [], args := [] }

/-- 'ingotlaw6.RunBack': WHATEVER THE INPUT: true; the input reads as it did. -/
def runBackSpec : ChangeSpec := { name := "runBack", fn := fun _ => fun
  | [d] => { results := [.lit (.bool true)], args := [d] }
  | _ => none }
def runBackRow : OpenClaim := { program := "ytcmmgehghlaofaa", sum := "5c6657dfcc5ae723d6dd70fe95b528ff1a855f952ea490368599ab06ba765e3e", func := "ingot/ingotlaw6.RunBack", spec := "runBack", unfollowed := true, recurses := true, apart := false }
def RunBackSaid : Prop := runBackRow.holds Try.pinned (OpenSpec.ofChange runBackSpec)

/-- ITS FALSE NEIGHBOUR: 'it returns false'. Refute it at one input. -/
def runBackWrong : ChangeSpec := { name := "runBack", fn := fun _ => fun
  | [d] => { results := [.lit (.bool false)], args := [d] }
  | _ => none }
def RunBackWrongFalsely : Prop := runBackRow.holds Try.pinned (OpenSpec.ofChange runBackWrong)

/-- 'ingotlaw6.RunSame': WHATEVER THE INPUT: true; the input reads as it did. -/
def runSameSpec : ChangeSpec := { name := "runSame", fn := fun _ => fun
  | [d1, d2] => { results := [.lit (.bool true)], args := [d1, d2] }
  | _ => none }
def runSameRow : OpenClaim := { program := "ytcmmgehghlaofaa", sum := "5c6657dfcc5ae723d6dd70fe95b528ff1a855f952ea490368599ab06ba765e3e", func := "ingot/ingotlaw6.RunSame", spec := "runSame", unfollowed := true, recurses := true, apart := false }
def RunSameSaid : Prop := runSameRow.holds Try.pinned (OpenSpec.ofChange runSameSpec)

/-- ITS FALSE NEIGHBOUR: 'it returns false'. Refute it at one input. -/
def runSameWrong : ChangeSpec := { name := "runSame", fn := fun _ => fun
  | [d1, d2] => { results := [.lit (.bool false)], args := [d1, d2] }
  | _ => none }
def RunSameWrongFalsely : Prop := runSameRow.holds Try.pinned (OpenSpec.ofChange runSameWrong)

/-- 'ingotlaw6.RunParts': WHATEVER THE INPUT: true; the input reads as it did. -/
def runPartsSpec : ChangeSpec := { name := "runParts", fn := fun _ => fun
  | [d] => { results := [.lit (.bool true)], args := [d] }
  | _ => none }
def runPartsRow : OpenClaim := { program := "ytcmmgehghlaofaa", sum := "5c6657dfcc5ae723d6dd70fe95b528ff1a855f952ea490368599ab06ba765e3e", func := "ingot/ingotlaw6.RunParts", spec := "runParts", unfollowed := true, recurses := true, apart := false }
def RunPartsSaid : Prop := runPartsRow.holds Try.pinned (OpenSpec.ofChange runPartsSpec)

/-- ITS FALSE NEIGHBOUR: 'it returns false'. Refute it at one input. -/
def runPartsWrong : ChangeSpec := { name := "runParts", fn := fun _ => fun
  | [d] => { results := [.lit (.bool false)], args := [d] }
  | _ => none }
def RunPartsWrongFalsely : Prop := runPartsRow.holds Try.pinned (OpenSpec.ofChange runPartsWrong)

/-- 'ingotlaw6.RunTwo': WHATEVER THE INPUT: true; the input reads as it did. -/
def runTwoSpec : ChangeSpec := { name := "runTwo", fn := fun _ => fun
  | [d1, d2] => { results := [.lit (.bool true)], args := [d1, d2] }
  | _ => none }
def runTwoRow : OpenClaim := { program := "ytcmmgehghlaofaa", sum := "5c6657dfcc5ae723d6dd70fe95b528ff1a855f952ea490368599ab06ba765e3e", func := "ingot/ingotlaw6.RunTwo", spec := "runTwo", unfollowed := true, recurses := true, apart := false }
def RunTwoSaid : Prop := runTwoRow.holds Try.pinned (OpenSpec.ofChange runTwoSpec)

/-- ITS FALSE NEIGHBOUR: 'it returns false'. Refute it at one input. -/
def runTwoWrong : ChangeSpec := { name := "runTwo", fn := fun _ => fun
  | [d1, d2] => { results := [.lit (.bool false)], args := [d1, d2] }
  | _ => none }
def RunTwoWrongFalsely : Prop := runTwoRow.holds Try.pinned (OpenSpec.ofChange runTwoWrong)

/-- 'ingotlaw6.RunNone': WHATEVER THE INPUT: true; the input reads as it did. -/
def runNoneSpec : ChangeSpec := { name := "runNone", fn := fun _ => fun
  | [d1, d2] => { results := [.lit (.bool true)], args := [d1, d2] }
  | _ => none }
def runNoneRow : OpenClaim := { program := "ytcmmgehghlaofaa", sum := "5c6657dfcc5ae723d6dd70fe95b528ff1a855f952ea490368599ab06ba765e3e", func := "ingot/ingotlaw6.RunNone", spec := "runNone", unfollowed := true, recurses := true, apart := false }
def RunNoneSaid : Prop := runNoneRow.holds Try.pinned (OpenSpec.ofChange runNoneSpec)

/-- ITS FALSE NEIGHBOUR: 'it returns false'. Refute it at one input. -/
def runNoneWrong : ChangeSpec := { name := "runNone", fn := fun _ => fun
  | [d1, d2] => { results := [.lit (.bool false)], args := [d1, d2] }
  | _ => none }
def RunNoneWrongFalsely : Prop := runNoneRow.holds Try.pinned (OpenSpec.ofChange runNoneWrong)

/-- 'ingotlaw7.FlagBack': WHATEVER THE INPUT: true; the input reads as it did. -/
def flagBackSpec : ChangeSpec := { name := "flagBack", fn := fun _ => fun
  | [d] => { results := [.lit (.bool true)], args := [d] }
  | _ => none }
def flagBackRow : OpenClaim := { program := "ytcmmgehghlaofaa", sum := "5c6657dfcc5ae723d6dd70fe95b528ff1a855f952ea490368599ab06ba765e3e", func := "ingot/ingotlaw7.FlagBack", spec := "flagBack", unfollowed := true, recurses := true, apart := false }
def FlagBackSaid : Prop := flagBackRow.holds Try.pinned (OpenSpec.ofChange flagBackSpec)

/-- ITS FALSE NEIGHBOUR: 'it returns false'. Refute it at one input. -/
def flagBackWrong : ChangeSpec := { name := "flagBack", fn := fun _ => fun
  | [d] => { results := [.lit (.bool false)], args := [d] }
  | _ => none }
def FlagBackWrongFalsely : Prop := flagBackRow.holds Try.pinned (OpenSpec.ofChange flagBackWrong)

/-- 'ingotlaw7.FlagFills': WHATEVER THE INPUT: true; the input reads as it did. -/
def flagFillsSpec : ChangeSpec := { name := "flagFills", fn := fun _ => fun
  | [d1, d2, d3] => { results := [.lit (.bool true)], args := [d1, d2, d3] }
  | _ => none }
def flagFillsRow : OpenClaim := { program := "ytcmmgehghlaofaa", sum := "5c6657dfcc5ae723d6dd70fe95b528ff1a855f952ea490368599ab06ba765e3e", func := "ingot/ingotlaw7.FlagFills", spec := "flagFills", unfollowed := true, recurses := true, apart := false }
def FlagFillsSaid : Prop := flagFillsRow.holds Try.pinned (OpenSpec.ofChange flagFillsSpec)

/-- ITS FALSE NEIGHBOUR: 'it returns false'. Refute it at one input. -/
def flagFillsWrong : ChangeSpec := { name := "flagFills", fn := fun _ => fun
  | [d1, d2, d3] => { results := [.lit (.bool false)], args := [d1, d2, d3] }
  | _ => none }
def FlagFillsWrongFalsely : Prop := flagFillsRow.holds Try.pinned (OpenSpec.ofChange flagFillsWrong)

/-- 'ingotlaw7.FlagRuns': WHATEVER THE INPUT: true; the input reads as it did. -/
def flagRunsSpec : ChangeSpec := { name := "flagRuns", fn := fun _ => fun
  | [d1, d2] => { results := [.lit (.bool true)], args := [d1, d2] }
  | _ => none }
def flagRunsRow : OpenClaim := { program := "ytcmmgehghlaofaa", sum := "5c6657dfcc5ae723d6dd70fe95b528ff1a855f952ea490368599ab06ba765e3e", func := "ingot/ingotlaw7.FlagRuns", spec := "flagRuns", unfollowed := true, recurses := true, apart := false }
def FlagRunsSaid : Prop := flagRunsRow.holds Try.pinned (OpenSpec.ofChange flagRunsSpec)

/-- ITS FALSE NEIGHBOUR: 'it returns false'. Refute it at one input. -/
def flagRunsWrong : ChangeSpec := { name := "flagRuns", fn := fun _ => fun
  | [d1, d2] => { results := [.lit (.bool false)], args := [d1, d2] }
  | _ => none }
def FlagRunsWrongFalsely : Prop := flagRunsRow.holds Try.pinned (OpenSpec.ofChange flagRunsWrong)

/-- 'ingotlaw7.FlagCounts': WHATEVER THE INPUT: true; the input reads as it did. -/
def flagCountsSpec : ChangeSpec := { name := "flagCounts", fn := fun _ => fun
  | [d1, d2] => { results := [.lit (.bool true)], args := [d1, d2] }
  | _ => none }
def flagCountsRow : OpenClaim := { program := "ytcmmgehghlaofaa", sum := "5c6657dfcc5ae723d6dd70fe95b528ff1a855f952ea490368599ab06ba765e3e", func := "ingot/ingotlaw7.FlagCounts", spec := "flagCounts", unfollowed := true, recurses := true, apart := false }
def FlagCountsSaid : Prop := flagCountsRow.holds Try.pinned (OpenSpec.ofChange flagCountsSpec)

/-- ITS FALSE NEIGHBOUR: 'it returns false'. Refute it at one input. -/
def flagCountsWrong : ChangeSpec := { name := "flagCounts", fn := fun _ => fun
  | [d1, d2] => { results := [.lit (.bool false)], args := [d1, d2] }
  | _ => none }
def FlagCountsWrongFalsely : Prop := flagCountsRow.holds Try.pinned (OpenSpec.ofChange flagCountsWrong)

/-- 'ingotlaw3.PbAsks': WHATEVER THE INPUT: true; the input reads as it did. -/
def pbAsksSpec : ChangeSpec := { name := "pbAsks", fn := fun _ => fun
  | [d1, d2] => { results := [.lit (.bool true)], args := [d1, d2] }
  | _ => none }
def pbAsksRow : OpenClaim := { program := "ytcmmgehghlaofaa", sum := "5c6657dfcc5ae723d6dd70fe95b528ff1a855f952ea490368599ab06ba765e3e", func := "ingot/ingotlaw3.PbAsks", spec := "pbAsks", unfollowed := true, recurses := true, apart := false }
def PbAsksSaid : Prop := pbAsksRow.holds Try.pinned (OpenSpec.ofChange pbAsksSpec)

/-- ITS FALSE NEIGHBOUR: 'it returns false'. Refute it at one input. -/
def pbAsksWrong : ChangeSpec := { name := "pbAsks", fn := fun _ => fun
  | [d1, d2] => { results := [.lit (.bool false)], args := [d1, d2] }
  | _ => none }
def PbAsksWrongFalsely : Prop := pbAsksRow.holds Try.pinned (OpenSpec.ofChange pbAsksWrong)

/-- 'ingotlaw3.PbPuts': WHATEVER THE INPUT: true; the input reads as it did. -/
def pbPutsSpec : ChangeSpec := { name := "pbPuts", fn := fun _ => fun
  | [d] => { results := [.lit (.bool true)], args := [d] }
  | _ => none }
def pbPutsRow : OpenClaim := { program := "ytcmmgehghlaofaa", sum := "5c6657dfcc5ae723d6dd70fe95b528ff1a855f952ea490368599ab06ba765e3e", func := "ingot/ingotlaw3.PbPuts", spec := "pbPuts", unfollowed := true, recurses := true, apart := false }
def PbPutsSaid : Prop := pbPutsRow.holds Try.pinned (OpenSpec.ofChange pbPutsSpec)

/-- ITS FALSE NEIGHBOUR: 'it returns false'. Refute it at one input. -/
def pbPutsWrong : ChangeSpec := { name := "pbPuts", fn := fun _ => fun
  | [d] => { results := [.lit (.bool false)], args := [d] }
  | _ => none }
def PbPutsWrongFalsely : Prop := pbPutsRow.holds Try.pinned (OpenSpec.ofChange pbPutsWrong)

/-- 'ingotlaw3.PbCuts': WHATEVER THE INPUT: true; the input reads as it did. -/
def pbCutsSpec : ChangeSpec := { name := "pbCuts", fn := fun _ => fun
  | [d1, d2] => { results := [.lit (.bool true)], args := [d1, d2] }
  | _ => none }
def pbCutsRow : OpenClaim := { program := "ytcmmgehghlaofaa", sum := "5c6657dfcc5ae723d6dd70fe95b528ff1a855f952ea490368599ab06ba765e3e", func := "ingot/ingotlaw3.PbCuts", spec := "pbCuts", unfollowed := true, recurses := true, apart := false }
def PbCutsSaid : Prop := pbCutsRow.holds Try.pinned (OpenSpec.ofChange pbCutsSpec)

/-- ITS FALSE NEIGHBOUR: 'it returns false'. Refute it at one input. -/
def pbCutsWrong : ChangeSpec := { name := "pbCuts", fn := fun _ => fun
  | [d1, d2] => { results := [.lit (.bool false)], args := [d1, d2] }
  | _ => none }
def PbCutsWrongFalsely : Prop := pbCutsRow.holds Try.pinned (OpenSpec.ofChange pbCutsWrong)

/-- 'ingotlaw3.PbLast': WHATEVER THE INPUT: true; the input reads as it did. -/
def pbLastSpec : ChangeSpec := { name := "pbLast", fn := fun _ => fun
  | [d1, d2, d3] => { results := [.lit (.bool true)], args := [d1, d2, d3] }
  | _ => none }
def pbLastRow : OpenClaim := { program := "ytcmmgehghlaofaa", sum := "5c6657dfcc5ae723d6dd70fe95b528ff1a855f952ea490368599ab06ba765e3e", func := "ingot/ingotlaw3.PbLast", spec := "pbLast", unfollowed := true, recurses := true, apart := false }
def PbLastSaid : Prop := pbLastRow.holds Try.pinned (OpenSpec.ofChange pbLastSpec)

/-- ITS FALSE NEIGHBOUR: 'it returns false'. Refute it at one input. -/
def pbLastWrong : ChangeSpec := { name := "pbLast", fn := fun _ => fun
  | [d1, d2, d3] => { results := [.lit (.bool false)], args := [d1, d2, d3] }
  | _ => none }
def PbLastWrongFalsely : Prop := pbLastRow.holds Try.pinned (OpenSpec.ofChange pbLastWrong)

/-- 'ingotlaw3.PbPacked': WHATEVER THE INPUT: true; the input reads as it did. -/
def pbPackedSpec : ChangeSpec := { name := "pbPacked", fn := fun _ => fun
  | [d1, d2] => { results := [.lit (.bool true)], args := [d1, d2] }
  | _ => none }
def pbPackedRow : OpenClaim := { program := "ytcmmgehghlaofaa", sum := "5c6657dfcc5ae723d6dd70fe95b528ff1a855f952ea490368599ab06ba765e3e", func := "ingot/ingotlaw3.PbPacked", spec := "pbPacked", unfollowed := true, recurses := true, apart := false }
def PbPackedSaid : Prop := pbPackedRow.holds Try.pinned (OpenSpec.ofChange pbPackedSpec)

/-- ITS FALSE NEIGHBOUR: 'it returns false'. Refute it at one input. -/
def pbPackedWrong : ChangeSpec := { name := "pbPacked", fn := fun _ => fun
  | [d1, d2] => { results := [.lit (.bool false)], args := [d1, d2] }
  | _ => none }
def PbPackedWrongFalsely : Prop := pbPackedRow.holds Try.pinned (OpenSpec.ofChange pbPackedWrong)

/-- 'ingotlaw3.PbNests': WHATEVER THE INPUT: true; the input reads as it did. -/
def pbNestsSpec : ChangeSpec := { name := "pbNests", fn := fun _ => fun
  | [d1, d2] => { results := [.lit (.bool true)], args := [d1, d2] }
  | _ => none }
def pbNestsRow : OpenClaim := { program := "ytcmmgehghlaofaa", sum := "5c6657dfcc5ae723d6dd70fe95b528ff1a855f952ea490368599ab06ba765e3e", func := "ingot/ingotlaw3.PbNests", spec := "pbNests", unfollowed := true, recurses := true, apart := false }
def PbNestsSaid : Prop := pbNestsRow.holds Try.pinned (OpenSpec.ofChange pbNestsSpec)

/-- ITS FALSE NEIGHBOUR: 'it returns false'. Refute it at one input. -/
def pbNestsWrong : ChangeSpec := { name := "pbNests", fn := fun _ => fun
  | [d1, d2] => { results := [.lit (.bool false)], args := [d1, d2] }
  | _ => none }
def PbNestsWrongFalsely : Prop := pbNestsRow.holds Try.pinned (OpenSpec.ofChange pbNestsWrong)

/-- 'ingotlaw20.PostBytes': WHATEVER THE INPUT: true; the input reads as it did. -/
def postBytesSpec : ChangeSpec := { name := "postBytes", fn := fun _ => fun
  | [d] => { results := [.lit (.bool true)], args := [d] }
  | _ => none }
def postBytesRow : OpenClaim := { program := "ytcmmgehghlaofaa", sum := "5c6657dfcc5ae723d6dd70fe95b528ff1a855f952ea490368599ab06ba765e3e", func := "ingot/ingotlaw20.PostBytes", spec := "postBytes", unfollowed := true, recurses := true, apart := false }
def PostBytesSaid : Prop := postBytesRow.holds Try.pinned (OpenSpec.ofChange postBytesSpec)

/-- ITS FALSE NEIGHBOUR: 'it returns false'. Refute it at one input. -/
def postBytesWrong : ChangeSpec := { name := "postBytes", fn := fun _ => fun
  | [d] => { results := [.lit (.bool false)], args := [d] }
  | _ => none }
def PostBytesWrongFalsely : Prop := postBytesRow.holds Try.pinned (OpenSpec.ofChange postBytesWrong)

/-- 'ingotlaw20.PostBack': WHATEVER THE INPUT: true; the input reads as it did. -/
def postBackSpec : ChangeSpec := { name := "postBack", fn := fun _ => fun
  | [d1, d2] => { results := [.lit (.bool true)], args := [d1, d2] }
  | _ => none }
def postBackRow : OpenClaim := { program := "ytcmmgehghlaofaa", sum := "5c6657dfcc5ae723d6dd70fe95b528ff1a855f952ea490368599ab06ba765e3e", func := "ingot/ingotlaw20.PostBack", spec := "postBack", unfollowed := true, recurses := true, apart := false }
def PostBackSaid : Prop := postBackRow.holds Try.pinned (OpenSpec.ofChange postBackSpec)

/-- ITS FALSE NEIGHBOUR: 'it returns false'. Refute it at one input. -/
def postBackWrong : ChangeSpec := { name := "postBack", fn := fun _ => fun
  | [d1, d2] => { results := [.lit (.bool false)], args := [d1, d2] }
  | _ => none }
def PostBackWrongFalsely : Prop := postBackRow.holds Try.pinned (OpenSpec.ofChange postBackWrong)

/-- 'ingotlaw20.PostFields': WHATEVER THE INPUT: true; the input reads as it did. -/
def postFieldsSpec : ChangeSpec := { name := "postFields", fn := fun _ => fun
  | [d1, d2, d3, d4, d5] => { results := [.lit (.bool true)], args := [d1, d2, d3, d4, d5] }
  | _ => none }
def postFieldsRow : OpenClaim := { program := "ytcmmgehghlaofaa", sum := "5c6657dfcc5ae723d6dd70fe95b528ff1a855f952ea490368599ab06ba765e3e", func := "ingot/ingotlaw20.PostFields", spec := "postFields", unfollowed := true, recurses := true, apart := false }
def PostFieldsSaid : Prop := postFieldsRow.holds Try.pinned (OpenSpec.ofChange postFieldsSpec)

/-- ITS FALSE NEIGHBOUR: 'it returns false'. Refute it at one input. -/
def postFieldsWrong : ChangeSpec := { name := "postFields", fn := fun _ => fun
  | [d1, d2, d3, d4, d5] => { results := [.lit (.bool false)], args := [d1, d2, d3, d4, d5] }
  | _ => none }
def PostFieldsWrongFalsely : Prop := postFieldsRow.holds Try.pinned (OpenSpec.ofChange postFieldsWrong)

/-- 'ingotlaw20.PostLacks': WHATEVER THE INPUT: true; the input reads as it did. -/
def postLacksSpec : ChangeSpec := { name := "postLacks", fn := fun _ => fun
  | [d1, d2] => { results := [.lit (.bool true)], args := [d1, d2] }
  | _ => none }
def postLacksRow : OpenClaim := { program := "ytcmmgehghlaofaa", sum := "5c6657dfcc5ae723d6dd70fe95b528ff1a855f952ea490368599ab06ba765e3e", func := "ingot/ingotlaw20.PostLacks", spec := "postLacks", unfollowed := true, recurses := true, apart := false }
def PostLacksSaid : Prop := postLacksRow.holds Try.pinned (OpenSpec.ofChange postLacksSpec)

/-- ITS FALSE NEIGHBOUR: 'it returns false'. Refute it at one input. -/
def postLacksWrong : ChangeSpec := { name := "postLacks", fn := fun _ => fun
  | [d1, d2] => { results := [.lit (.bool false)], args := [d1, d2] }
  | _ => none }
def PostLacksWrongFalsely : Prop := postLacksRow.holds Try.pinned (OpenSpec.ofChange postLacksWrong)

/- THE SECOND FORM. 'bulk': how many values and letters a reading holds, each counted each time it is reached (what is shared counts as often as it is met; a slice's spare places count too). A statement '..UptoSaid' is the law's where the arguments, and the package variables that the reading takes, are together of bulk at most 1048576: NARROWER than '..Said'. Prove '..Said' where nothing that the law and all that it calls make is longer than what came in: it says more and counts as full. Else prove '..UptoSaid'. A law counts once. -/
mutual
def uptoBulk {H : Type} : DataW H → Nat
  | .lit (.string bytes) => bytes.length + 1
  | .lit _ => 1
  | .nil => 1
  | .ptr d => uptoBulk d + 1
  | .slice elems spare => uptoBulkAll elems + uptoBulkAll spare + 1
  | .agg parts => uptoBulkAll parts + 1
  | .iface _ d => uptoBulk d + 1
  | .map entries => uptoBulkEntries entries + 1
  | .held _ => 1
def uptoBulkAll {H : Type} : List (DataW H) → Nat
  | [] => 0
  | d :: r => uptoBulk d + uptoBulkAll r
def uptoBulkEntries {H : Type} : List (Lit × DataW H) → Nat
  | [] => 0
  | x :: r => uptoBulkEntry x + uptoBulkEntries r
def uptoBulkEntry {H : Type} : Lit × DataW H → Nat
  | (.string bytes, d) => bytes.length + uptoBulk d + 1
  | (_, d) => uptoBulk d + 1
 end
def uptoSmall : (H : Type) → List (DataW H) → Bool := fun _ ds => decide (uptoBulkAll ds ≤ 1048576)
def OpenSpec.upto (s : _root_.Go.ChangeSpec) : _root_.Go.OpenSpec := { _root_.Go.OpenSpec.ofChange s with cond := some uptoSmall }

/-- 'ingotlaw6.RunBack', WHERE WHAT IT READS IS OF BULK AT MOST 1048576: true; the input reads as it did. -/
def runBackUptoRow : OpenClaim := { program := "ytcmmgehghlaofaa", sum := "5c6657dfcc5ae723d6dd70fe95b528ff1a855f952ea490368599ab06ba765e3e", func := "ingot/ingotlaw6.RunBack", spec := "runBack", unfollowed := true, recurses := true, apart := false, narrowed := true }
def RunBackUptoSaid : Prop := runBackUptoRow.holds Try.pinned (OpenSpec.upto runBackSpec)

/-- 'ingotlaw6.RunSame', WHERE WHAT IT READS IS OF BULK AT MOST 1048576: true; the input reads as it did. -/
def runSameUptoRow : OpenClaim := { program := "ytcmmgehghlaofaa", sum := "5c6657dfcc5ae723d6dd70fe95b528ff1a855f952ea490368599ab06ba765e3e", func := "ingot/ingotlaw6.RunSame", spec := "runSame", unfollowed := true, recurses := true, apart := false, narrowed := true }
def RunSameUptoSaid : Prop := runSameUptoRow.holds Try.pinned (OpenSpec.upto runSameSpec)

/-- 'ingotlaw6.RunParts', WHERE WHAT IT READS IS OF BULK AT MOST 1048576: true; the input reads as it did. -/
def runPartsUptoRow : OpenClaim := { program := "ytcmmgehghlaofaa", sum := "5c6657dfcc5ae723d6dd70fe95b528ff1a855f952ea490368599ab06ba765e3e", func := "ingot/ingotlaw6.RunParts", spec := "runParts", unfollowed := true, recurses := true, apart := false, narrowed := true }
def RunPartsUptoSaid : Prop := runPartsUptoRow.holds Try.pinned (OpenSpec.upto runPartsSpec)

/-- 'ingotlaw6.RunTwo', WHERE WHAT IT READS IS OF BULK AT MOST 1048576: true; the input reads as it did. -/
def runTwoUptoRow : OpenClaim := { program := "ytcmmgehghlaofaa", sum := "5c6657dfcc5ae723d6dd70fe95b528ff1a855f952ea490368599ab06ba765e3e", func := "ingot/ingotlaw6.RunTwo", spec := "runTwo", unfollowed := true, recurses := true, apart := false, narrowed := true }
def RunTwoUptoSaid : Prop := runTwoUptoRow.holds Try.pinned (OpenSpec.upto runTwoSpec)

/-- 'ingotlaw6.RunNone', WHERE WHAT IT READS IS OF BULK AT MOST 1048576: true; the input reads as it did. -/
def runNoneUptoRow : OpenClaim := { program := "ytcmmgehghlaofaa", sum := "5c6657dfcc5ae723d6dd70fe95b528ff1a855f952ea490368599ab06ba765e3e", func := "ingot/ingotlaw6.RunNone", spec := "runNone", unfollowed := true, recurses := true, apart := false, narrowed := true }
def RunNoneUptoSaid : Prop := runNoneUptoRow.holds Try.pinned (OpenSpec.upto runNoneSpec)

/-- 'ingotlaw7.FlagBack', WHERE WHAT IT READS IS OF BULK AT MOST 1048576: true; the input reads as it did. -/
def flagBackUptoRow : OpenClaim := { program := "ytcmmgehghlaofaa", sum := "5c6657dfcc5ae723d6dd70fe95b528ff1a855f952ea490368599ab06ba765e3e", func := "ingot/ingotlaw7.FlagBack", spec := "flagBack", unfollowed := true, recurses := true, apart := false, narrowed := true }
def FlagBackUptoSaid : Prop := flagBackUptoRow.holds Try.pinned (OpenSpec.upto flagBackSpec)

/-- 'ingotlaw7.FlagFills', WHERE WHAT IT READS IS OF BULK AT MOST 1048576: true; the input reads as it did. -/
def flagFillsUptoRow : OpenClaim := { program := "ytcmmgehghlaofaa", sum := "5c6657dfcc5ae723d6dd70fe95b528ff1a855f952ea490368599ab06ba765e3e", func := "ingot/ingotlaw7.FlagFills", spec := "flagFills", unfollowed := true, recurses := true, apart := false, narrowed := true }
def FlagFillsUptoSaid : Prop := flagFillsUptoRow.holds Try.pinned (OpenSpec.upto flagFillsSpec)

/-- 'ingotlaw7.FlagRuns', WHERE WHAT IT READS IS OF BULK AT MOST 1048576: true; the input reads as it did. -/
def flagRunsUptoRow : OpenClaim := { program := "ytcmmgehghlaofaa", sum := "5c6657dfcc5ae723d6dd70fe95b528ff1a855f952ea490368599ab06ba765e3e", func := "ingot/ingotlaw7.FlagRuns", spec := "flagRuns", unfollowed := true, recurses := true, apart := false, narrowed := true }
def FlagRunsUptoSaid : Prop := flagRunsUptoRow.holds Try.pinned (OpenSpec.upto flagRunsSpec)

/-- 'ingotlaw7.FlagCounts', WHERE WHAT IT READS IS OF BULK AT MOST 1048576: true; the input reads as it did. -/
def flagCountsUptoRow : OpenClaim := { program := "ytcmmgehghlaofaa", sum := "5c6657dfcc5ae723d6dd70fe95b528ff1a855f952ea490368599ab06ba765e3e", func := "ingot/ingotlaw7.FlagCounts", spec := "flagCounts", unfollowed := true, recurses := true, apart := false, narrowed := true }
def FlagCountsUptoSaid : Prop := flagCountsUptoRow.holds Try.pinned (OpenSpec.upto flagCountsSpec)

/-- 'ingotlaw3.PbAsks', WHERE WHAT IT READS IS OF BULK AT MOST 1048576: true; the input reads as it did. -/
def pbAsksUptoRow : OpenClaim := { program := "ytcmmgehghlaofaa", sum := "5c6657dfcc5ae723d6dd70fe95b528ff1a855f952ea490368599ab06ba765e3e", func := "ingot/ingotlaw3.PbAsks", spec := "pbAsks", unfollowed := true, recurses := true, apart := false, narrowed := true }
def PbAsksUptoSaid : Prop := pbAsksUptoRow.holds Try.pinned (OpenSpec.upto pbAsksSpec)

/-- 'ingotlaw3.PbPuts', WHERE WHAT IT READS IS OF BULK AT MOST 1048576: true; the input reads as it did. -/
def pbPutsUptoRow : OpenClaim := { program := "ytcmmgehghlaofaa", sum := "5c6657dfcc5ae723d6dd70fe95b528ff1a855f952ea490368599ab06ba765e3e", func := "ingot/ingotlaw3.PbPuts", spec := "pbPuts", unfollowed := true, recurses := true, apart := false, narrowed := true }
def PbPutsUptoSaid : Prop := pbPutsUptoRow.holds Try.pinned (OpenSpec.upto pbPutsSpec)

/-- 'ingotlaw3.PbCuts', WHERE WHAT IT READS IS OF BULK AT MOST 1048576: true; the input reads as it did. -/
def pbCutsUptoRow : OpenClaim := { program := "ytcmmgehghlaofaa", sum := "5c6657dfcc5ae723d6dd70fe95b528ff1a855f952ea490368599ab06ba765e3e", func := "ingot/ingotlaw3.PbCuts", spec := "pbCuts", unfollowed := true, recurses := true, apart := false, narrowed := true }
def PbCutsUptoSaid : Prop := pbCutsUptoRow.holds Try.pinned (OpenSpec.upto pbCutsSpec)

/-- 'ingotlaw3.PbLast', WHERE WHAT IT READS IS OF BULK AT MOST 1048576: true; the input reads as it did. -/
def pbLastUptoRow : OpenClaim := { program := "ytcmmgehghlaofaa", sum := "5c6657dfcc5ae723d6dd70fe95b528ff1a855f952ea490368599ab06ba765e3e", func := "ingot/ingotlaw3.PbLast", spec := "pbLast", unfollowed := true, recurses := true, apart := false, narrowed := true }
def PbLastUptoSaid : Prop := pbLastUptoRow.holds Try.pinned (OpenSpec.upto pbLastSpec)

/-- 'ingotlaw3.PbPacked', WHERE WHAT IT READS IS OF BULK AT MOST 1048576: true; the input reads as it did. -/
def pbPackedUptoRow : OpenClaim := { program := "ytcmmgehghlaofaa", sum := "5c6657dfcc5ae723d6dd70fe95b528ff1a855f952ea490368599ab06ba765e3e", func := "ingot/ingotlaw3.PbPacked", spec := "pbPacked", unfollowed := true, recurses := true, apart := false, narrowed := true }
def PbPackedUptoSaid : Prop := pbPackedUptoRow.holds Try.pinned (OpenSpec.upto pbPackedSpec)

/-- 'ingotlaw3.PbNests', WHERE WHAT IT READS IS OF BULK AT MOST 1048576: true; the input reads as it did. -/
def pbNestsUptoRow : OpenClaim := { program := "ytcmmgehghlaofaa", sum := "5c6657dfcc5ae723d6dd70fe95b528ff1a855f952ea490368599ab06ba765e3e", func := "ingot/ingotlaw3.PbNests", spec := "pbNests", unfollowed := true, recurses := true, apart := false, narrowed := true }
def PbNestsUptoSaid : Prop := pbNestsUptoRow.holds Try.pinned (OpenSpec.upto pbNestsSpec)

/-- 'ingotlaw20.PostBytes', WHERE WHAT IT READS IS OF BULK AT MOST 1048576: true; the input reads as it did. -/
def postBytesUptoRow : OpenClaim := { program := "ytcmmgehghlaofaa", sum := "5c6657dfcc5ae723d6dd70fe95b528ff1a855f952ea490368599ab06ba765e3e", func := "ingot/ingotlaw20.PostBytes", spec := "postBytes", unfollowed := true, recurses := true, apart := false, narrowed := true }
def PostBytesUptoSaid : Prop := postBytesUptoRow.holds Try.pinned (OpenSpec.upto postBytesSpec)

/-- 'ingotlaw20.PostBack', WHERE WHAT IT READS IS OF BULK AT MOST 1048576: true; the input reads as it did. -/
def postBackUptoRow : OpenClaim := { program := "ytcmmgehghlaofaa", sum := "5c6657dfcc5ae723d6dd70fe95b528ff1a855f952ea490368599ab06ba765e3e", func := "ingot/ingotlaw20.PostBack", spec := "postBack", unfollowed := true, recurses := true, apart := false, narrowed := true }
def PostBackUptoSaid : Prop := postBackUptoRow.holds Try.pinned (OpenSpec.upto postBackSpec)

/-- 'ingotlaw20.PostFields', WHERE WHAT IT READS IS OF BULK AT MOST 1048576: true; the input reads as it did. -/
def postFieldsUptoRow : OpenClaim := { program := "ytcmmgehghlaofaa", sum := "5c6657dfcc5ae723d6dd70fe95b528ff1a855f952ea490368599ab06ba765e3e", func := "ingot/ingotlaw20.PostFields", spec := "postFields", unfollowed := true, recurses := true, apart := false, narrowed := true }
def PostFieldsUptoSaid : Prop := postFieldsUptoRow.holds Try.pinned (OpenSpec.upto postFieldsSpec)

/-- 'ingotlaw20.PostLacks', WHERE WHAT IT READS IS OF BULK AT MOST 1048576: true; the input reads as it did. -/
def postLacksUptoRow : OpenClaim := { program := "ytcmmgehghlaofaa", sum := "5c6657dfcc5ae723d6dd70fe95b528ff1a855f952ea490368599ab06ba765e3e", func := "ingot/ingotlaw20.PostLacks", spec := "postLacks", unfollowed := true, recurses := true, apart := false, narrowed := true }
def PostLacksUptoSaid : Prop := postLacksUptoRow.holds Try.pinned (OpenSpec.upto postLacksSpec)

end Rows
end Go.Proofs.Ytcmmgehghlaofaa
