/-
  No cell of these rows narrows 'for every input' (looked for: loops, veiled, ifaces, maps, wideKeys, modest, calm, conditions, laid).
  DERIVED. THE GIVEN ROWS OF THIS SEAT. 14 by the template 'for every input the law returns true; each argument reads behind the call as it read before'; 0 by the template 'total and deterministic' (their statements: YtfgjanponijkhaaTotals.lean).
  GIVEN WITH THE SEED: the statements are not yours to turn. If you find one false, say at which input.
  Laid BY PROGRAM, IN A SANDBOX (cutbox-rows.mjs): the forced cells as the released guide's own fill.sh prints them over the translation a474178dff708774… (all of the seat's roots in one cut). By AI agents, Wed Nov 11 2026. No macro, syntax, notation, axiom, sorry.
-/
import Derived.Test.YtfgjanponijkhaaChecked
import GoSem.Claim
import GoSem.ClaimJoined
import GoSem.ClaimMapViews
import Derived.JoinedTies
import Derived.KernelRfl
namespace Go.Proofs.Ytfgjanponijkhaa
/- THE CELL 'sum', in the pinned program and in every row, IS THE sha256 OF THE DUMP (.gsa) THAT YtfgjanponijkhaaProg.lean LOADS. Nothing in Lean hashes anything: it is a label: what it is worth is what the hold of that sum in a sandbox is worth. -/
noncomputable def Try.pinned : Pinned := { name := "ytfgjanponijkhaa", sum := "a474178dff708774bac5ca2cb29391c946a59d1512766d2e09e845cdd4556bc0", checked := Try.checked }
namespace Rows
def none {H : Type} : Left H := { results := [], args := [] }

/-- 'blinktreelaw8.NodeReadsFinish': WHATEVER THE INPUT: true; the input reads as it did. -/
def nodeReadsFinishSpec : ChangeSpec := { name := "nodeReadsFinish", fn := fun _ => fun
  | [d1, d2, d3, d4] => { results := [.lit (.bool true)], args := [d1, d2, d3, d4] }
  | _ => none }
def nodeReadsFinishRow : OpenClaim := { program := "ytfgjanponijkhaa", sum := "a474178dff708774bac5ca2cb29391c946a59d1512766d2e09e845cdd4556bc0", func := "blinktree/blinktreelaw8.NodeReadsFinish", spec := "nodeReadsFinish", unfollowed := true, recurses := true, plainKeys := false, apart := false }
def NodeReadsFinishSaid : Prop := nodeReadsFinishRow.holds Try.pinned (OpenSpec.ofChange nodeReadsFinishSpec)

/-- ITS FALSE NEIGHBOUR: 'it returns false'. Refute it at one input. -/
def nodeReadsFinishWrong : ChangeSpec := { name := "nodeReadsFinish", fn := fun _ => fun
  | [d1, d2, d3, d4] => { results := [.lit (.bool false)], args := [d1, d2, d3, d4] }
  | _ => none }
def NodeReadsFinishWrongFalsely : Prop := nodeReadsFinishRow.holds Try.pinned (OpenSpec.ofChange nodeReadsFinishWrong)

/-- 'blinktreelaw10.ChainRestoreUndoes': WHATEVER THE INPUT: true; the input reads as it did. -/
def chainRestoreUndoesSpec : ChangeSpec := { name := "chainRestoreUndoes", fn := fun _ => fun
  | [d1, d2, d3, d4] => { results := [.lit (.bool true)], args := [d1, d2, d3, d4] }
  | _ => none }
def chainRestoreUndoesRow : OpenClaim := { program := "ytfgjanponijkhaa", sum := "a474178dff708774bac5ca2cb29391c946a59d1512766d2e09e845cdd4556bc0", func := "blinktree/blinktreelaw10.ChainRestoreUndoes", spec := "chainRestoreUndoes", unfollowed := true, recurses := true, plainKeys := false, apart := false }
def ChainRestoreUndoesSaid : Prop := chainRestoreUndoesRow.holds Try.pinned (OpenSpec.ofChange chainRestoreUndoesSpec)

/-- ITS FALSE NEIGHBOUR: 'it returns false'. Refute it at one input. -/
def chainRestoreUndoesWrong : ChangeSpec := { name := "chainRestoreUndoes", fn := fun _ => fun
  | [d1, d2, d3, d4] => { results := [.lit (.bool false)], args := [d1, d2, d3, d4] }
  | _ => none }
def ChainRestoreUndoesWrongFalsely : Prop := chainRestoreUndoesRow.holds Try.pinned (OpenSpec.ofChange chainRestoreUndoesWrong)

/-- 'blinktreelaw8.NodeReadsAreValidated': WHATEVER THE INPUT: true; the input reads as it did. -/
def nodeReadsAreValidatedSpec : ChangeSpec := { name := "nodeReadsAreValidated", fn := fun _ => fun
  | [d1, d2, d3] => { results := [.lit (.bool true)], args := [d1, d2, d3] }
  | _ => none }
def nodeReadsAreValidatedRow : OpenClaim := { program := "ytfgjanponijkhaa", sum := "a474178dff708774bac5ca2cb29391c946a59d1512766d2e09e845cdd4556bc0", func := "blinktree/blinktreelaw8.NodeReadsAreValidated", spec := "nodeReadsAreValidated", unfollowed := true, recurses := true, plainKeys := false, apart := false }
def NodeReadsAreValidatedSaid : Prop := nodeReadsAreValidatedRow.holds Try.pinned (OpenSpec.ofChange nodeReadsAreValidatedSpec)

/-- ITS FALSE NEIGHBOUR: 'it returns false'. Refute it at one input. -/
def nodeReadsAreValidatedWrong : ChangeSpec := { name := "nodeReadsAreValidated", fn := fun _ => fun
  | [d1, d2, d3] => { results := [.lit (.bool false)], args := [d1, d2, d3] }
  | _ => none }
def NodeReadsAreValidatedWrongFalsely : Prop := nodeReadsAreValidatedRow.holds Try.pinned (OpenSpec.ofChange nodeReadsAreValidatedWrong)

/-- 'blinktreelaw8.NodeWriteStages': WHATEVER THE INPUT: true; the input reads as it did. -/
def nodeWriteStagesSpec : ChangeSpec := { name := "nodeWriteStages", fn := fun _ => fun
  | [d1, d2, d3, d4] => { results := [.lit (.bool true)], args := [d1, d2, d3, d4] }
  | _ => none }
def nodeWriteStagesRow : OpenClaim := { program := "ytfgjanponijkhaa", sum := "a474178dff708774bac5ca2cb29391c946a59d1512766d2e09e845cdd4556bc0", func := "blinktree/blinktreelaw8.NodeWriteStages", spec := "nodeWriteStages", unfollowed := true, recurses := true, plainKeys := false, apart := false }
def NodeWriteStagesSaid : Prop := nodeWriteStagesRow.holds Try.pinned (OpenSpec.ofChange nodeWriteStagesSpec)

/-- ITS FALSE NEIGHBOUR: 'it returns false'. Refute it at one input. -/
def nodeWriteStagesWrong : ChangeSpec := { name := "nodeWriteStages", fn := fun _ => fun
  | [d1, d2, d3, d4] => { results := [.lit (.bool false)], args := [d1, d2, d3, d4] }
  | _ => none }
def NodeWriteStagesWrongFalsely : Prop := nodeWriteStagesRow.holds Try.pinned (OpenSpec.ofChange nodeWriteStagesWrong)

/-- 'blinktreelaw10.ChainLookupIsStable': WHATEVER THE INPUT: true; the input reads as it did. -/
def chainLookupIsStableSpec : ChangeSpec := { name := "chainLookupIsStable", fn := fun _ => fun
  | [d1, d2, d3, d4] => { results := [.lit (.bool true)], args := [d1, d2, d3, d4] }
  | _ => none }
def chainLookupIsStableRow : OpenClaim := { program := "ytfgjanponijkhaa", sum := "a474178dff708774bac5ca2cb29391c946a59d1512766d2e09e845cdd4556bc0", func := "blinktree/blinktreelaw10.ChainLookupIsStable", spec := "chainLookupIsStable", unfollowed := true, recurses := true, plainKeys := false, apart := false }
def ChainLookupIsStableSaid : Prop := chainLookupIsStableRow.holds Try.pinned (OpenSpec.ofChange chainLookupIsStableSpec)

/-- ITS FALSE NEIGHBOUR: 'it returns false'. Refute it at one input. -/
def chainLookupIsStableWrong : ChangeSpec := { name := "chainLookupIsStable", fn := fun _ => fun
  | [d1, d2, d3, d4] => { results := [.lit (.bool false)], args := [d1, d2, d3, d4] }
  | _ => none }
def ChainLookupIsStableWrongFalsely : Prop := chainLookupIsStableRow.holds Try.pinned (OpenSpec.ofChange chainLookupIsStableWrong)

/-- 'blinktreelaw10.ChainTruncatesTwice': WHATEVER THE INPUT: true; the input reads as it did. -/
def chainTruncatesTwiceSpec : ChangeSpec := { name := "chainTruncatesTwice", fn := fun _ => fun
  | [d1, d2, d3] => { results := [.lit (.bool true)], args := [d1, d2, d3] }
  | _ => none }
def chainTruncatesTwiceRow : OpenClaim := { program := "ytfgjanponijkhaa", sum := "a474178dff708774bac5ca2cb29391c946a59d1512766d2e09e845cdd4556bc0", func := "blinktree/blinktreelaw10.ChainTruncatesTwice", spec := "chainTruncatesTwice", unfollowed := true, recurses := true, plainKeys := false, apart := false }
def ChainTruncatesTwiceSaid : Prop := chainTruncatesTwiceRow.holds Try.pinned (OpenSpec.ofChange chainTruncatesTwiceSpec)

/-- ITS FALSE NEIGHBOUR: 'it returns false'. Refute it at one input. -/
def chainTruncatesTwiceWrong : ChangeSpec := { name := "chainTruncatesTwice", fn := fun _ => fun
  | [d1, d2, d3] => { results := [.lit (.bool false)], args := [d1, d2, d3] }
  | _ => none }
def ChainTruncatesTwiceWrongFalsely : Prop := chainTruncatesTwiceRow.holds Try.pinned (OpenSpec.ofChange chainTruncatesTwiceWrong)

/-- 'blinktreelaw10.ChainBuilds': WHATEVER THE INPUT: true; the input reads as it did. -/
def chainBuildsSpec : ChangeSpec := { name := "chainBuilds", fn := fun _ => fun
  | [d1, d2] => { results := [.lit (.bool true)], args := [d1, d2] }
  | _ => none }
def chainBuildsRow : OpenClaim := { program := "ytfgjanponijkhaa", sum := "a474178dff708774bac5ca2cb29391c946a59d1512766d2e09e845cdd4556bc0", func := "blinktree/blinktreelaw10.ChainBuilds", spec := "chainBuilds", unfollowed := true, recurses := true, plainKeys := false, apart := false }
def ChainBuildsSaid : Prop := chainBuildsRow.holds Try.pinned (OpenSpec.ofChange chainBuildsSpec)

/-- ITS FALSE NEIGHBOUR: 'it returns false'. Refute it at one input. -/
def chainBuildsWrong : ChangeSpec := { name := "chainBuilds", fn := fun _ => fun
  | [d1, d2] => { results := [.lit (.bool false)], args := [d1, d2] }
  | _ => none }
def ChainBuildsWrongFalsely : Prop := chainBuildsRow.holds Try.pinned (OpenSpec.ofChange chainBuildsWrong)

/-- 'blinktreelaw8.NodeRoundTrip': WHATEVER THE INPUT: true; the input reads as it did. -/
def nodeRoundTripSpec : ChangeSpec := { name := "nodeRoundTrip", fn := fun _ => fun
  | [d1, d2, d3, d4, d5] => { results := [.lit (.bool true)], args := [d1, d2, d3, d4, d5] }
  | _ => none }
def nodeRoundTripRow : OpenClaim := { program := "ytfgjanponijkhaa", sum := "a474178dff708774bac5ca2cb29391c946a59d1512766d2e09e845cdd4556bc0", func := "blinktree/blinktreelaw8.NodeRoundTrip", spec := "nodeRoundTrip", unfollowed := true, recurses := true, plainKeys := false, apart := false }
def NodeRoundTripSaid : Prop := nodeRoundTripRow.holds Try.pinned (OpenSpec.ofChange nodeRoundTripSpec)

/-- ITS FALSE NEIGHBOUR: 'it returns false'. Refute it at one input. -/
def nodeRoundTripWrong : ChangeSpec := { name := "nodeRoundTrip", fn := fun _ => fun
  | [d1, d2, d3, d4, d5] => { results := [.lit (.bool false)], args := [d1, d2, d3, d4, d5] }
  | _ => none }
def NodeRoundTripWrongFalsely : Prop := nodeRoundTripRow.holds Try.pinned (OpenSpec.ofChange nodeRoundTripWrong)

/-- 'blinktreelaw11.DescentFinds': WHATEVER THE INPUT: true; the input reads as it did. -/
def descentFindsSpec : ChangeSpec := { name := "descentFinds", fn := fun _ => fun
  | [d1, d2, d3, d4, d5, d6, d7] => { results := [.lit (.bool true)], args := [d1, d2, d3, d4, d5, d6, d7] }
  | _ => none }
def descentFindsRow : OpenClaim := { program := "ytfgjanponijkhaa", sum := "a474178dff708774bac5ca2cb29391c946a59d1512766d2e09e845cdd4556bc0", func := "blinktree/blinktreelaw11.DescentFinds", spec := "descentFinds", unfollowed := true, recurses := true, plainKeys := false, apart := false }
def DescentFindsSaid : Prop := descentFindsRow.holds Try.pinned (OpenSpec.ofChange descentFindsSpec)

/-- ITS FALSE NEIGHBOUR: 'it returns false'. Refute it at one input. -/
def descentFindsWrong : ChangeSpec := { name := "descentFinds", fn := fun _ => fun
  | [d1, d2, d3, d4, d5, d6, d7] => { results := [.lit (.bool false)], args := [d1, d2, d3, d4, d5, d6, d7] }
  | _ => none }
def DescentFindsWrongFalsely : Prop := descentFindsRow.holds Try.pinned (OpenSpec.ofChange descentFindsWrong)

/-- 'blinktreelaw11.DescentIsShort': WHATEVER THE INPUT: true; the input reads as it did. -/
def descentIsShortSpec : ChangeSpec := { name := "descentIsShort", fn := fun _ => fun
  | [d1, d2, d3, d4, d5] => { results := [.lit (.bool true)], args := [d1, d2, d3, d4, d5] }
  | _ => none }
def descentIsShortRow : OpenClaim := { program := "ytfgjanponijkhaa", sum := "a474178dff708774bac5ca2cb29391c946a59d1512766d2e09e845cdd4556bc0", func := "blinktree/blinktreelaw11.DescentIsShort", spec := "descentIsShort", unfollowed := true, recurses := true, plainKeys := false, apart := false }
def DescentIsShortSaid : Prop := descentIsShortRow.holds Try.pinned (OpenSpec.ofChange descentIsShortSpec)

/-- ITS FALSE NEIGHBOUR: 'it returns false'. Refute it at one input. -/
def descentIsShortWrong : ChangeSpec := { name := "descentIsShort", fn := fun _ => fun
  | [d1, d2, d3, d4, d5] => { results := [.lit (.bool false)], args := [d1, d2, d3, d4, d5] }
  | _ => none }
def DescentIsShortWrongFalsely : Prop := descentIsShortRow.holds Try.pinned (OpenSpec.ofChange descentIsShortWrong)

/-- 'blinktreelaw11.DescentLevels': WHATEVER THE INPUT: true; the input reads as it did. -/
def descentLevelsSpec : ChangeSpec := { name := "descentLevels", fn := fun _ => fun
  | [d1, d2, d3, d4, d5] => { results := [.lit (.bool true)], args := [d1, d2, d3, d4, d5] }
  | _ => none }
def descentLevelsRow : OpenClaim := { program := "ytfgjanponijkhaa", sum := "a474178dff708774bac5ca2cb29391c946a59d1512766d2e09e845cdd4556bc0", func := "blinktree/blinktreelaw11.DescentLevels", spec := "descentLevels", unfollowed := true, recurses := true, plainKeys := false, apart := false }
def DescentLevelsSaid : Prop := descentLevelsRow.holds Try.pinned (OpenSpec.ofChange descentLevelsSpec)

/-- ITS FALSE NEIGHBOUR: 'it returns false'. Refute it at one input. -/
def descentLevelsWrong : ChangeSpec := { name := "descentLevels", fn := fun _ => fun
  | [d1, d2, d3, d4, d5] => { results := [.lit (.bool false)], args := [d1, d2, d3, d4, d5] }
  | _ => none }
def DescentLevelsWrongFalsely : Prop := descentLevelsRow.holds Try.pinned (OpenSpec.ofChange descentLevelsWrong)

/-- 'blinktreelaw11.DescentBelow': WHATEVER THE INPUT: true; the input reads as it did. -/
def descentBelowSpec : ChangeSpec := { name := "descentBelow", fn := fun _ => fun
  | [d1, d2, d3, d4, d5, d6, d7] => { results := [.lit (.bool true)], args := [d1, d2, d3, d4, d5, d6, d7] }
  | _ => none }
def descentBelowRow : OpenClaim := { program := "ytfgjanponijkhaa", sum := "a474178dff708774bac5ca2cb29391c946a59d1512766d2e09e845cdd4556bc0", func := "blinktree/blinktreelaw11.DescentBelow", spec := "descentBelow", unfollowed := true, recurses := true, plainKeys := false, apart := false }
def DescentBelowSaid : Prop := descentBelowRow.holds Try.pinned (OpenSpec.ofChange descentBelowSpec)

/-- ITS FALSE NEIGHBOUR: 'it returns false'. Refute it at one input. -/
def descentBelowWrong : ChangeSpec := { name := "descentBelow", fn := fun _ => fun
  | [d1, d2, d3, d4, d5, d6, d7] => { results := [.lit (.bool false)], args := [d1, d2, d3, d4, d5, d6, d7] }
  | _ => none }
def DescentBelowWrongFalsely : Prop := descentBelowRow.holds Try.pinned (OpenSpec.ofChange descentBelowWrong)

/-- 'blinktreelaw11.DescentMeetsEveryKey': WHATEVER THE INPUT: true; the input reads as it did. -/
def descentMeetsEveryKeySpec : ChangeSpec := { name := "descentMeetsEveryKey", fn := fun _ => fun
  | [d1, d2, d3, d4] => { results := [.lit (.bool true)], args := [d1, d2, d3, d4] }
  | _ => none }
def descentMeetsEveryKeyRow : OpenClaim := { program := "ytfgjanponijkhaa", sum := "a474178dff708774bac5ca2cb29391c946a59d1512766d2e09e845cdd4556bc0", func := "blinktree/blinktreelaw11.DescentMeetsEveryKey", spec := "descentMeetsEveryKey", unfollowed := true, recurses := true, plainKeys := false, apart := false }
def DescentMeetsEveryKeySaid : Prop := descentMeetsEveryKeyRow.holds Try.pinned (OpenSpec.ofChange descentMeetsEveryKeySpec)

/-- ITS FALSE NEIGHBOUR: 'it returns false'. Refute it at one input. -/
def descentMeetsEveryKeyWrong : ChangeSpec := { name := "descentMeetsEveryKey", fn := fun _ => fun
  | [d1, d2, d3, d4] => { results := [.lit (.bool false)], args := [d1, d2, d3, d4] }
  | _ => none }
def DescentMeetsEveryKeyWrongFalsely : Prop := descentMeetsEveryKeyRow.holds Try.pinned (OpenSpec.ofChange descentMeetsEveryKeyWrong)

/-- 'blinktreelaw13.InsertInserts': WHATEVER THE INPUT: true; the input reads as it did. -/
def insertInsertsSpec : ChangeSpec := { name := "insertInserts", fn := fun _ => fun
  | [d1, d2, d3, d4, d5, d6, d7] => { results := [.lit (.bool true)], args := [d1, d2, d3, d4, d5, d6, d7] }
  | _ => none }
def insertInsertsRow : OpenClaim := { program := "ytfgjanponijkhaa", sum := "a474178dff708774bac5ca2cb29391c946a59d1512766d2e09e845cdd4556bc0", func := "blinktree/blinktreelaw13.InsertInserts", spec := "insertInserts", unfollowed := true, recurses := true, plainKeys := false, apart := false }
def InsertInsertsSaid : Prop := insertInsertsRow.holds Try.pinned (OpenSpec.ofChange insertInsertsSpec)

/-- ITS FALSE NEIGHBOUR: 'it returns false'. Refute it at one input. -/
def insertInsertsWrong : ChangeSpec := { name := "insertInserts", fn := fun _ => fun
  | [d1, d2, d3, d4, d5, d6, d7] => { results := [.lit (.bool false)], args := [d1, d2, d3, d4, d5, d6, d7] }
  | _ => none }
def InsertInsertsWrongFalsely : Prop := insertInsertsRow.holds Try.pinned (OpenSpec.ofChange insertInsertsWrong)

/- THE SECOND FORM. 'bulk': how many values and letters a reading holds, each counted each time it is reached (what is shared counts as often as it is met; a slice's spare places count too). A statement '..UptoSaid' is the law's where the arguments, and the package variables that the reading takes, are together of bulk at most 1048576: NARROWER than '..Said'. Prove '..Said' where nothing that the law and all that it calls make is longer than what came in: it says more and counts as full. Else prove '..UptoSaid'. A law counts once. -/
mutual
def uptoBulk {H : Type} : DataW H → Nat
  | .lit (.string bytes) => bytes.length + 1
  | .lit _ => 1
  | .nil => 1
  | .ptr d => uptoBulk d + 1
  | .slice elems spare => uptoBulkAll elems + uptoBulkAll spare + 1
  | .agg parts => uptoBulkAll parts + 1
  | .iface _ d => uptoBulk d + 1
  | .map entries => uptoBulkEntries entries + 1
  | .held _ => 1
def uptoBulkAll {H : Type} : List (DataW H) → Nat
  | [] => 0
  | d :: r => uptoBulk d + uptoBulkAll r
def uptoBulkEntries {H : Type} : List (Lit × DataW H) → Nat
  | [] => 0
  | x :: r => uptoBulkEntry x + uptoBulkEntries r
def uptoBulkEntry {H : Type} : Lit × DataW H → Nat
  | (.string bytes, d) => bytes.length + uptoBulk d + 1
  | (_, d) => uptoBulk d + 1
 end
def uptoSmall : (H : Type) → List (DataW H) → Bool := fun _ ds => decide (uptoBulkAll ds ≤ 1048576)
def OpenSpec.upto (s : _root_.Go.ChangeSpec) : _root_.Go.OpenSpec := { _root_.Go.OpenSpec.ofChange s with cond := some uptoSmall }

/-- 'blinktreelaw8.NodeReadsFinish', WHERE WHAT IT READS IS OF BULK AT MOST 1048576: true; the input reads as it did. -/
def nodeReadsFinishUptoRow : OpenClaim := { program := "ytfgjanponijkhaa", sum := "a474178dff708774bac5ca2cb29391c946a59d1512766d2e09e845cdd4556bc0", func := "blinktree/blinktreelaw8.NodeReadsFinish", spec := "nodeReadsFinish", unfollowed := true, recurses := true, plainKeys := false, apart := false, narrowed := true }
def NodeReadsFinishUptoSaid : Prop := nodeReadsFinishUptoRow.holds Try.pinned (OpenSpec.upto nodeReadsFinishSpec)

/-- 'blinktreelaw10.ChainRestoreUndoes', WHERE WHAT IT READS IS OF BULK AT MOST 1048576: true; the input reads as it did. -/
def chainRestoreUndoesUptoRow : OpenClaim := { program := "ytfgjanponijkhaa", sum := "a474178dff708774bac5ca2cb29391c946a59d1512766d2e09e845cdd4556bc0", func := "blinktree/blinktreelaw10.ChainRestoreUndoes", spec := "chainRestoreUndoes", unfollowed := true, recurses := true, plainKeys := false, apart := false, narrowed := true }
def ChainRestoreUndoesUptoSaid : Prop := chainRestoreUndoesUptoRow.holds Try.pinned (OpenSpec.upto chainRestoreUndoesSpec)

/-- 'blinktreelaw8.NodeReadsAreValidated', WHERE WHAT IT READS IS OF BULK AT MOST 1048576: true; the input reads as it did. -/
def nodeReadsAreValidatedUptoRow : OpenClaim := { program := "ytfgjanponijkhaa", sum := "a474178dff708774bac5ca2cb29391c946a59d1512766d2e09e845cdd4556bc0", func := "blinktree/blinktreelaw8.NodeReadsAreValidated", spec := "nodeReadsAreValidated", unfollowed := true, recurses := true, plainKeys := false, apart := false, narrowed := true }
def NodeReadsAreValidatedUptoSaid : Prop := nodeReadsAreValidatedUptoRow.holds Try.pinned (OpenSpec.upto nodeReadsAreValidatedSpec)

/-- 'blinktreelaw8.NodeWriteStages', WHERE WHAT IT READS IS OF BULK AT MOST 1048576: true; the input reads as it did. -/
def nodeWriteStagesUptoRow : OpenClaim := { program := "ytfgjanponijkhaa", sum := "a474178dff708774bac5ca2cb29391c946a59d1512766d2e09e845cdd4556bc0", func := "blinktree/blinktreelaw8.NodeWriteStages", spec := "nodeWriteStages", unfollowed := true, recurses := true, plainKeys := false, apart := false, narrowed := true }
def NodeWriteStagesUptoSaid : Prop := nodeWriteStagesUptoRow.holds Try.pinned (OpenSpec.upto nodeWriteStagesSpec)

/-- 'blinktreelaw10.ChainLookupIsStable', WHERE WHAT IT READS IS OF BULK AT MOST 1048576: true; the input reads as it did. -/
def chainLookupIsStableUptoRow : OpenClaim := { program := "ytfgjanponijkhaa", sum := "a474178dff708774bac5ca2cb29391c946a59d1512766d2e09e845cdd4556bc0", func := "blinktree/blinktreelaw10.ChainLookupIsStable", spec := "chainLookupIsStable", unfollowed := true, recurses := true, plainKeys := false, apart := false, narrowed := true }
def ChainLookupIsStableUptoSaid : Prop := chainLookupIsStableUptoRow.holds Try.pinned (OpenSpec.upto chainLookupIsStableSpec)

/-- 'blinktreelaw10.ChainTruncatesTwice', WHERE WHAT IT READS IS OF BULK AT MOST 1048576: true; the input reads as it did. -/
def chainTruncatesTwiceUptoRow : OpenClaim := { program := "ytfgjanponijkhaa", sum := "a474178dff708774bac5ca2cb29391c946a59d1512766d2e09e845cdd4556bc0", func := "blinktree/blinktreelaw10.ChainTruncatesTwice", spec := "chainTruncatesTwice", unfollowed := true, recurses := true, plainKeys := false, apart := false, narrowed := true }
def ChainTruncatesTwiceUptoSaid : Prop := chainTruncatesTwiceUptoRow.holds Try.pinned (OpenSpec.upto chainTruncatesTwiceSpec)

/-- 'blinktreelaw10.ChainBuilds', WHERE WHAT IT READS IS OF BULK AT MOST 1048576: true; the input reads as it did. -/
def chainBuildsUptoRow : OpenClaim := { program := "ytfgjanponijkhaa", sum := "a474178dff708774bac5ca2cb29391c946a59d1512766d2e09e845cdd4556bc0", func := "blinktree/blinktreelaw10.ChainBuilds", spec := "chainBuilds", unfollowed := true, recurses := true, plainKeys := false, apart := false, narrowed := true }
def ChainBuildsUptoSaid : Prop := chainBuildsUptoRow.holds Try.pinned (OpenSpec.upto chainBuildsSpec)

/-- 'blinktreelaw8.NodeRoundTrip', WHERE WHAT IT READS IS OF BULK AT MOST 1048576: true; the input reads as it did. -/
def nodeRoundTripUptoRow : OpenClaim := { program := "ytfgjanponijkhaa", sum := "a474178dff708774bac5ca2cb29391c946a59d1512766d2e09e845cdd4556bc0", func := "blinktree/blinktreelaw8.NodeRoundTrip", spec := "nodeRoundTrip", unfollowed := true, recurses := true, plainKeys := false, apart := false, narrowed := true }
def NodeRoundTripUptoSaid : Prop := nodeRoundTripUptoRow.holds Try.pinned (OpenSpec.upto nodeRoundTripSpec)

/-- 'blinktreelaw11.DescentFinds', WHERE WHAT IT READS IS OF BULK AT MOST 1048576: true; the input reads as it did. -/
def descentFindsUptoRow : OpenClaim := { program := "ytfgjanponijkhaa", sum := "a474178dff708774bac5ca2cb29391c946a59d1512766d2e09e845cdd4556bc0", func := "blinktree/blinktreelaw11.DescentFinds", spec := "descentFinds", unfollowed := true, recurses := true, plainKeys := false, apart := false, narrowed := true }
def DescentFindsUptoSaid : Prop := descentFindsUptoRow.holds Try.pinned (OpenSpec.upto descentFindsSpec)

/-- 'blinktreelaw11.DescentIsShort', WHERE WHAT IT READS IS OF BULK AT MOST 1048576: true; the input reads as it did. -/
def descentIsShortUptoRow : OpenClaim := { program := "ytfgjanponijkhaa", sum := "a474178dff708774bac5ca2cb29391c946a59d1512766d2e09e845cdd4556bc0", func := "blinktree/blinktreelaw11.DescentIsShort", spec := "descentIsShort", unfollowed := true, recurses := true, plainKeys := false, apart := false, narrowed := true }
def DescentIsShortUptoSaid : Prop := descentIsShortUptoRow.holds Try.pinned (OpenSpec.upto descentIsShortSpec)

/-- 'blinktreelaw11.DescentLevels', WHERE WHAT IT READS IS OF BULK AT MOST 1048576: true; the input reads as it did. -/
def descentLevelsUptoRow : OpenClaim := { program := "ytfgjanponijkhaa", sum := "a474178dff708774bac5ca2cb29391c946a59d1512766d2e09e845cdd4556bc0", func := "blinktree/blinktreelaw11.DescentLevels", spec := "descentLevels", unfollowed := true, recurses := true, plainKeys := false, apart := false, narrowed := true }
def DescentLevelsUptoSaid : Prop := descentLevelsUptoRow.holds Try.pinned (OpenSpec.upto descentLevelsSpec)

/-- 'blinktreelaw11.DescentBelow', WHERE WHAT IT READS IS OF BULK AT MOST 1048576: true; the input reads as it did. -/
def descentBelowUptoRow : OpenClaim := { program := "ytfgjanponijkhaa", sum := "a474178dff708774bac5ca2cb29391c946a59d1512766d2e09e845cdd4556bc0", func := "blinktree/blinktreelaw11.DescentBelow", spec := "descentBelow", unfollowed := true, recurses := true, plainKeys := false, apart := false, narrowed := true }
def DescentBelowUptoSaid : Prop := descentBelowUptoRow.holds Try.pinned (OpenSpec.upto descentBelowSpec)

/-- 'blinktreelaw11.DescentMeetsEveryKey', WHERE WHAT IT READS IS OF BULK AT MOST 1048576: true; the input reads as it did. -/
def descentMeetsEveryKeyUptoRow : OpenClaim := { program := "ytfgjanponijkhaa", sum := "a474178dff708774bac5ca2cb29391c946a59d1512766d2e09e845cdd4556bc0", func := "blinktree/blinktreelaw11.DescentMeetsEveryKey", spec := "descentMeetsEveryKey", unfollowed := true, recurses := true, plainKeys := false, apart := false, narrowed := true }
def DescentMeetsEveryKeyUptoSaid : Prop := descentMeetsEveryKeyUptoRow.holds Try.pinned (OpenSpec.upto descentMeetsEveryKeySpec)

/-- 'blinktreelaw13.InsertInserts', WHERE WHAT IT READS IS OF BULK AT MOST 1048576: true; the input reads as it did. -/
def insertInsertsUptoRow : OpenClaim := { program := "ytfgjanponijkhaa", sum := "a474178dff708774bac5ca2cb29391c946a59d1512766d2e09e845cdd4556bc0", func := "blinktree/blinktreelaw13.InsertInserts", spec := "insertInserts", unfollowed := true, recurses := true, plainKeys := false, apart := false, narrowed := true }
def InsertInsertsUptoSaid : Prop := insertInsertsUptoRow.holds Try.pinned (OpenSpec.upto insertInsertsSpec)

end Rows
end Go.Proofs.Ytfgjanponijkhaa
