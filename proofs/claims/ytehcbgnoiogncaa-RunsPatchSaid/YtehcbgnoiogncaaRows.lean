/-
  No cell of these rows narrows 'for every input' (looked for: loops, veiled, ifaces, maps, wideKeys, modest, calm, conditions, laid).
  DERIVED. THE GIVEN ROWS OF THIS SEAT. 8 by the template 'for every input the law returns true; each argument reads behind the call as it read before'; 0 by the template 'total and deterministic' (their statements: YtehcbgnoiogncaaTotals.lean).
  GIVEN WITH THE SEED: the statements are not yours to turn. If you find one false, say at which input.
  Laid BY PROGRAM, IN A SANDBOX (cutbox-rows.mjs): the forced cells as the released guide's own fill.sh prints them over the translation 76630bbab59ff9c8… (all of the seat's roots in one cut). By AI agents, Wed Nov 11 2026. No macro, syntax, notation, axiom, sorry.
-/
import Derived.Test.YtehcbgnoiogncaaChecked
import GoSem.Claim
import GoSem.ClaimJoined
import GoSem.ClaimMapViews
import Derived.JoinedTies
import Derived.KernelRfl
namespace Go.Proofs.Ytehcbgnoiogncaa
/- THE CELL 'sum', in the pinned program and in every row, IS THE sha256 OF THE DUMP (.gsa) THAT YtehcbgnoiogncaaProg.lean LOADS. Nothing in Lean hashes anything: it is a label: what it is worth is what the hold of that sum in a sandbox is worth. -/
noncomputable def Try.pinned : Pinned := { name := "ytehcbgnoiogncaa", sum := "76630bbab59ff9c83963e96314955271fd0a8ce08faa6de325603d65e44a84d1", checked := Try.checked }
namespace Rows
def none {H : Type} : Left H := { results := [], args := [] }

/-- 'ingotlaw9.RunsPlain': WHATEVER THE INPUT: true; the input reads as it did. -/
def runsPlainSpec : ChangeSpec := { name := "runsPlain", fn := fun _ => fun
  | [d1, d2] => { results := [.lit (.bool true)], args := [d1, d2] }
  | _ => none }
def runsPlainRow : OpenClaim := { program := "ytehcbgnoiogncaa", sum := "76630bbab59ff9c83963e96314955271fd0a8ce08faa6de325603d65e44a84d1", func := "ingot/ingotlaw9.RunsPlain", spec := "runsPlain", apart := false }
def RunsPlainSaid : Prop := runsPlainRow.holds Try.pinned (OpenSpec.ofChange runsPlainSpec)

/-- ITS FALSE NEIGHBOUR: 'it returns false'. Refute it at one input. -/
def runsPlainWrong : ChangeSpec := { name := "runsPlain", fn := fun _ => fun
  | [d1, d2] => { results := [.lit (.bool false)], args := [d1, d2] }
  | _ => none }
def RunsPlainWrongFalsely : Prop := runsPlainRow.holds Try.pinned (OpenSpec.ofChange runsPlainWrong)

/-- 'ingotlaw9.RunsShort': WHATEVER THE INPUT: true; the input reads as it did. -/
def runsShortSpec : ChangeSpec := { name := "runsShort", fn := fun _ => fun
  | [d1, d2, d3] => { results := [.lit (.bool true)], args := [d1, d2, d3] }
  | _ => none }
def runsShortRow : OpenClaim := { program := "ytehcbgnoiogncaa", sum := "76630bbab59ff9c83963e96314955271fd0a8ce08faa6de325603d65e44a84d1", func := "ingot/ingotlaw9.RunsShort", spec := "runsShort", apart := false }
def RunsShortSaid : Prop := runsShortRow.holds Try.pinned (OpenSpec.ofChange runsShortSpec)

/-- ITS FALSE NEIGHBOUR: 'it returns false'. Refute it at one input. -/
def runsShortWrong : ChangeSpec := { name := "runsShort", fn := fun _ => fun
  | [d1, d2, d3] => { results := [.lit (.bool false)], args := [d1, d2, d3] }
  | _ => none }
def RunsShortWrongFalsely : Prop := runsShortRow.holds Try.pinned (OpenSpec.ofChange runsShortWrong)

/-- 'ingotlaw9.RunsDelta': WHATEVER THE INPUT: true; the input reads as it did. -/
def runsDeltaSpec : ChangeSpec := { name := "runsDelta", fn := fun _ => fun
  | [d1, d2, d3] => { results := [.lit (.bool true)], args := [d1, d2, d3] }
  | _ => none }
def runsDeltaRow : OpenClaim := { program := "ytehcbgnoiogncaa", sum := "76630bbab59ff9c83963e96314955271fd0a8ce08faa6de325603d65e44a84d1", func := "ingot/ingotlaw9.RunsDelta", spec := "runsDelta", apart := false }
def RunsDeltaSaid : Prop := runsDeltaRow.holds Try.pinned (OpenSpec.ofChange runsDeltaSpec)

/-- ITS FALSE NEIGHBOUR: 'it returns false'. Refute it at one input. -/
def runsDeltaWrong : ChangeSpec := { name := "runsDelta", fn := fun _ => fun
  | [d1, d2, d3] => { results := [.lit (.bool false)], args := [d1, d2, d3] }
  | _ => none }
def RunsDeltaWrongFalsely : Prop := runsDeltaRow.holds Try.pinned (OpenSpec.ofChange runsDeltaWrong)

/-- 'ingotlaw9.RunsPatch': WHATEVER THE INPUT: true; the input reads as it did. -/
def runsPatchSpec : ChangeSpec := { name := "runsPatch", fn := fun _ => fun
  | [d1, d2, d3, d4, d5] => { results := [.lit (.bool true)], args := [d1, d2, d3, d4, d5] }
  | _ => none }
def runsPatchRow : OpenClaim := { program := "ytehcbgnoiogncaa", sum := "76630bbab59ff9c83963e96314955271fd0a8ce08faa6de325603d65e44a84d1", func := "ingot/ingotlaw9.RunsPatch", spec := "runsPatch", apart := false }
def RunsPatchSaid : Prop := runsPatchRow.holds Try.pinned (OpenSpec.ofChange runsPatchSpec)

/-- ITS FALSE NEIGHBOUR: 'it returns false'. Refute it at one input. -/
def runsPatchWrong : ChangeSpec := { name := "runsPatch", fn := fun _ => fun
  | [d1, d2, d3, d4, d5] => { results := [.lit (.bool false)], args := [d1, d2, d3, d4, d5] }
  | _ => none }
def RunsPatchWrongFalsely : Prop := runsPatchRow.holds Try.pinned (OpenSpec.ofChange runsPatchWrong)

/-- 'ingotlaw9.RunsRows': WHATEVER THE INPUT: true; the input reads as it did. -/
def runsRowsSpec : ChangeSpec := { name := "runsRows", fn := fun _ => fun
  | [d1, d2, d3] => { results := [.lit (.bool true)], args := [d1, d2, d3] }
  | _ => none }
def runsRowsRow : OpenClaim := { program := "ytehcbgnoiogncaa", sum := "76630bbab59ff9c83963e96314955271fd0a8ce08faa6de325603d65e44a84d1", func := "ingot/ingotlaw9.RunsRows", spec := "runsRows", apart := false }
def RunsRowsSaid : Prop := runsRowsRow.holds Try.pinned (OpenSpec.ofChange runsRowsSpec)

/-- ITS FALSE NEIGHBOUR: 'it returns false'. Refute it at one input. -/
def runsRowsWrong : ChangeSpec := { name := "runsRows", fn := fun _ => fun
  | [d1, d2, d3] => { results := [.lit (.bool false)], args := [d1, d2, d3] }
  | _ => none }
def RunsRowsWrongFalsely : Prop := runsRowsRow.holds Try.pinned (OpenSpec.ofChange runsRowsWrong)

/-- 'ingotlaw9.RunsAlike': WHATEVER THE INPUT: true; the input reads as it did. -/
def runsAlikeSpec : ChangeSpec := { name := "runsAlike", fn := fun _ => fun
  | [d1, d2, d3] => { results := [.lit (.bool true)], args := [d1, d2, d3] }
  | _ => none }
def runsAlikeRow : OpenClaim := { program := "ytehcbgnoiogncaa", sum := "76630bbab59ff9c83963e96314955271fd0a8ce08faa6de325603d65e44a84d1", func := "ingot/ingotlaw9.RunsAlike", spec := "runsAlike", apart := false }
def RunsAlikeSaid : Prop := runsAlikeRow.holds Try.pinned (OpenSpec.ofChange runsAlikeSpec)

/-- ITS FALSE NEIGHBOUR: 'it returns false'. Refute it at one input. -/
def runsAlikeWrong : ChangeSpec := { name := "runsAlike", fn := fun _ => fun
  | [d1, d2, d3] => { results := [.lit (.bool false)], args := [d1, d2, d3] }
  | _ => none }
def RunsAlikeWrongFalsely : Prop := runsAlikeRow.holds Try.pinned (OpenSpec.ofChange runsAlikeWrong)

/-- 'ingotlaw9.RunsCounts': WHATEVER THE INPUT: true; the input reads as it did. -/
def runsCountsSpec : ChangeSpec := { name := "runsCounts", fn := fun _ => fun
  | [d1, d2] => { results := [.lit (.bool true)], args := [d1, d2] }
  | _ => none }
def runsCountsRow : OpenClaim := { program := "ytehcbgnoiogncaa", sum := "76630bbab59ff9c83963e96314955271fd0a8ce08faa6de325603d65e44a84d1", func := "ingot/ingotlaw9.RunsCounts", spec := "runsCounts", apart := false }
def RunsCountsSaid : Prop := runsCountsRow.holds Try.pinned (OpenSpec.ofChange runsCountsSpec)

/-- ITS FALSE NEIGHBOUR: 'it returns false'. Refute it at one input. -/
def runsCountsWrong : ChangeSpec := { name := "runsCounts", fn := fun _ => fun
  | [d1, d2] => { results := [.lit (.bool false)], args := [d1, d2] }
  | _ => none }
def RunsCountsWrongFalsely : Prop := runsCountsRow.holds Try.pinned (OpenSpec.ofChange runsCountsWrong)

/-- 'ingotlaw9.RunsSigns': WHATEVER THE INPUT: true; the input reads as it did. -/
def runsSignsSpec : ChangeSpec := { name := "runsSigns", fn := fun _ => fun
  | [d] => { results := [.lit (.bool true)], args := [d] }
  | _ => none }
def runsSignsRow : OpenClaim := { program := "ytehcbgnoiogncaa", sum := "76630bbab59ff9c83963e96314955271fd0a8ce08faa6de325603d65e44a84d1", func := "ingot/ingotlaw9.RunsSigns", spec := "runsSigns", apart := false }
def RunsSignsSaid : Prop := runsSignsRow.holds Try.pinned (OpenSpec.ofChange runsSignsSpec)

/-- ITS FALSE NEIGHBOUR: 'it returns false'. Refute it at one input. -/
def runsSignsWrong : ChangeSpec := { name := "runsSigns", fn := fun _ => fun
  | [d] => { results := [.lit (.bool false)], args := [d] }
  | _ => none }
def RunsSignsWrongFalsely : Prop := runsSignsRow.holds Try.pinned (OpenSpec.ofChange runsSignsWrong)

/- THE SECOND FORM. 'bulk': how many values and letters a reading holds, each counted each time it is reached (what is shared counts as often as it is met; a slice's spare places count too). A statement '..UptoSaid' is the law's where the arguments, and the package variables that the reading takes, are together of bulk at most 1048576: NARROWER than '..Said'. Prove '..Said' where nothing that the law and all that it calls make is longer than what came in: it says more and counts as full. Else prove '..UptoSaid'. A law counts once. -/
mutual
def uptoBulk {H : Type} : DataW H → Nat
  | .lit (.string bytes) => bytes.length + 1
  | .lit _ => 1
  | .nil => 1
  | .ptr d => uptoBulk d + 1
  | .slice elems spare => uptoBulkAll elems + uptoBulkAll spare + 1
  | .agg parts => uptoBulkAll parts + 1
  | .iface _ d => uptoBulk d + 1
  | .map entries => uptoBulkEntries entries + 1
  | .held _ => 1
def uptoBulkAll {H : Type} : List (DataW H) → Nat
  | [] => 0
  | d :: r => uptoBulk d + uptoBulkAll r
def uptoBulkEntries {H : Type} : List (Lit × DataW H) → Nat
  | [] => 0
  | x :: r => uptoBulkEntry x + uptoBulkEntries r
def uptoBulkEntry {H : Type} : Lit × DataW H → Nat
  | (.string bytes, d) => bytes.length + uptoBulk d + 1
  | (_, d) => uptoBulk d + 1
 end
def uptoSmall : (H : Type) → List (DataW H) → Bool := fun _ ds => decide (uptoBulkAll ds ≤ 1048576)
def OpenSpec.upto (s : _root_.Go.ChangeSpec) : _root_.Go.OpenSpec := { _root_.Go.OpenSpec.ofChange s with cond := some uptoSmall }

/-- 'ingotlaw9.RunsPlain', WHERE WHAT IT READS IS OF BULK AT MOST 1048576: true; the input reads as it did. -/
def runsPlainUptoRow : OpenClaim := { program := "ytehcbgnoiogncaa", sum := "76630bbab59ff9c83963e96314955271fd0a8ce08faa6de325603d65e44a84d1", func := "ingot/ingotlaw9.RunsPlain", spec := "runsPlain", apart := false, narrowed := true }
def RunsPlainUptoSaid : Prop := runsPlainUptoRow.holds Try.pinned (OpenSpec.upto runsPlainSpec)

/-- 'ingotlaw9.RunsShort', WHERE WHAT IT READS IS OF BULK AT MOST 1048576: true; the input reads as it did. -/
def runsShortUptoRow : OpenClaim := { program := "ytehcbgnoiogncaa", sum := "76630bbab59ff9c83963e96314955271fd0a8ce08faa6de325603d65e44a84d1", func := "ingot/ingotlaw9.RunsShort", spec := "runsShort", apart := false, narrowed := true }
def RunsShortUptoSaid : Prop := runsShortUptoRow.holds Try.pinned (OpenSpec.upto runsShortSpec)

/-- 'ingotlaw9.RunsDelta', WHERE WHAT IT READS IS OF BULK AT MOST 1048576: true; the input reads as it did. -/
def runsDeltaUptoRow : OpenClaim := { program := "ytehcbgnoiogncaa", sum := "76630bbab59ff9c83963e96314955271fd0a8ce08faa6de325603d65e44a84d1", func := "ingot/ingotlaw9.RunsDelta", spec := "runsDelta", apart := false, narrowed := true }
def RunsDeltaUptoSaid : Prop := runsDeltaUptoRow.holds Try.pinned (OpenSpec.upto runsDeltaSpec)

/-- 'ingotlaw9.RunsPatch', WHERE WHAT IT READS IS OF BULK AT MOST 1048576: true; the input reads as it did. -/
def runsPatchUptoRow : OpenClaim := { program := "ytehcbgnoiogncaa", sum := "76630bbab59ff9c83963e96314955271fd0a8ce08faa6de325603d65e44a84d1", func := "ingot/ingotlaw9.RunsPatch", spec := "runsPatch", apart := false, narrowed := true }
def RunsPatchUptoSaid : Prop := runsPatchUptoRow.holds Try.pinned (OpenSpec.upto runsPatchSpec)

/-- 'ingotlaw9.RunsRows', WHERE WHAT IT READS IS OF BULK AT MOST 1048576: true; the input reads as it did. -/
def runsRowsUptoRow : OpenClaim := { program := "ytehcbgnoiogncaa", sum := "76630bbab59ff9c83963e96314955271fd0a8ce08faa6de325603d65e44a84d1", func := "ingot/ingotlaw9.RunsRows", spec := "runsRows", apart := false, narrowed := true }
def RunsRowsUptoSaid : Prop := runsRowsUptoRow.holds Try.pinned (OpenSpec.upto runsRowsSpec)

/-- 'ingotlaw9.RunsAlike', WHERE WHAT IT READS IS OF BULK AT MOST 1048576: true; the input reads as it did. -/
def runsAlikeUptoRow : OpenClaim := { program := "ytehcbgnoiogncaa", sum := "76630bbab59ff9c83963e96314955271fd0a8ce08faa6de325603d65e44a84d1", func := "ingot/ingotlaw9.RunsAlike", spec := "runsAlike", apart := false, narrowed := true }
def RunsAlikeUptoSaid : Prop := runsAlikeUptoRow.holds Try.pinned (OpenSpec.upto runsAlikeSpec)

/-- 'ingotlaw9.RunsCounts', WHERE WHAT IT READS IS OF BULK AT MOST 1048576: true; the input reads as it did. -/
def runsCountsUptoRow : OpenClaim := { program := "ytehcbgnoiogncaa", sum := "76630bbab59ff9c83963e96314955271fd0a8ce08faa6de325603d65e44a84d1", func := "ingot/ingotlaw9.RunsCounts", spec := "runsCounts", apart := false, narrowed := true }
def RunsCountsUptoSaid : Prop := runsCountsUptoRow.holds Try.pinned (OpenSpec.upto runsCountsSpec)

/-- 'ingotlaw9.RunsSigns', WHERE WHAT IT READS IS OF BULK AT MOST 1048576: true; the input reads as it did. -/
def runsSignsUptoRow : OpenClaim := { program := "ytehcbgnoiogncaa", sum := "76630bbab59ff9c83963e96314955271fd0a8ce08faa6de325603d65e44a84d1", func := "ingot/ingotlaw9.RunsSigns", spec := "runsSigns", apart := false, narrowed := true }
def RunsSignsUptoSaid : Prop := runsSignsUptoRow.holds Try.pinned (OpenSpec.upto runsSignsSpec)

end Rows
end Go.Proofs.Ytehcbgnoiogncaa
