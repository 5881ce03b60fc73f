/-
  No cell of these rows narrows 'for every input' (looked for: loops, veiled, ifaces, maps, wideKeys, modest, calm, conditions, laid).
  DERIVED. THE GIVEN ROWS OF THIS SEAT. 9 by the template 'for every input the law returns true; each argument reads behind the call as it read before'; 0 by the template 'total and deterministic' (their statements: YtlpdhhhgckpcfaaGreatTotals.lean).
  GIVEN WITH THE SEED: the statements are not yours to turn. If you find one false, say at which input.
  Laid BY PROGRAM, IN A SANDBOX (cutbox-rows.mjs): the forced cells as the released guide's own fill.sh prints them over the translation 79999523226058bb… (all of the seat's roots in one cut). By AI agents, Wed Nov 11 2026. No macro, syntax, notation, axiom, sorry.
-/
import Derived.Test.YtlpdhhhgckpcfaaGreatChecked
import GoSem.Claim
import GoSem.ClaimJoined
import GoSem.ClaimMapViews
import Derived.JoinedTies
import Derived.KernelRfl
namespace Go.Proofs.YtlpdhhhgckpcfaaGreat
/- THE CELL 'sum', in the pinned program and in every row, IS THE sha256 OF THE DUMP (.gsa) THAT YtlpdhhhgckpcfaaGreatProg.lean LOADS. Nothing in Lean hashes anything: it is a label: what it is worth is what the hold of that sum in a sandbox is worth. -/
noncomputable def Tryz.pinned : Pinned := { name := "ytlpdhhhgckpcfaagreat", sum := "79999523226058bb29b824b26adbbaf32276dc5179e72fd2b2718ae62049df42", checked := Tryz.checked }
namespace Rows
def none {H : Type} : Left H := { results := [], args := [] }

/-- 'blinktreelaw12.LeaflockExcludes': WHATEVER THE INPUT: true; the input reads as it did. -/
def leaflockExcludesSpec : ChangeSpec := { name := "leaflockExcludes", fn := fun _ => fun
  | [d1, d2, d3, d4, d5, d6] => { results := [.lit (.bool true)], args := [d1, d2, d3, d4, d5, d6] }
  | _ => none }
def leaflockExcludesRow : OpenClaim := { program := "ytlpdhhhgckpcfaagreat", sum := "79999523226058bb29b824b26adbbaf32276dc5179e72fd2b2718ae62049df42", func := "blinktree/blinktreelaw12.LeaflockExcludes", spec := "leaflockExcludes", unfollowed := true, recurses := true, plainKeys := false, apart := false }
def LeaflockExcludesSaid : Prop := leaflockExcludesRow.holds Tryz.pinned (OpenSpec.ofChange leaflockExcludesSpec)

/-- ITS FALSE NEIGHBOUR: 'it returns false'. Refute it at one input. -/
def leaflockExcludesWrong : ChangeSpec := { name := "leaflockExcludes", fn := fun _ => fun
  | [d1, d2, d3, d4, d5, d6] => { results := [.lit (.bool false)], args := [d1, d2, d3, d4, d5, d6] }
  | _ => none }
def LeaflockExcludesWrongFalsely : Prop := leaflockExcludesRow.holds Tryz.pinned (OpenSpec.ofChange leaflockExcludesWrong)

/-- 'blinktreelaw12.LeaflockLocks': WHATEVER THE INPUT: true; the input reads as it did. -/
def leaflockLocksSpec : ChangeSpec := { name := "leaflockLocks", fn := fun _ => fun
  | [d1, d2, d3, d4, d5, d6, d7] => { results := [.lit (.bool true)], args := [d1, d2, d3, d4, d5, d6, d7] }
  | _ => none }
def leaflockLocksRow : OpenClaim := { program := "ytlpdhhhgckpcfaagreat", sum := "79999523226058bb29b824b26adbbaf32276dc5179e72fd2b2718ae62049df42", func := "blinktree/blinktreelaw12.LeaflockLocks", spec := "leaflockLocks", unfollowed := true, recurses := true, plainKeys := false, apart := false }
def LeaflockLocksSaid : Prop := leaflockLocksRow.holds Tryz.pinned (OpenSpec.ofChange leaflockLocksSpec)

/-- ITS FALSE NEIGHBOUR: 'it returns false'. Refute it at one input. -/
def leaflockLocksWrong : ChangeSpec := { name := "leaflockLocks", fn := fun _ => fun
  | [d1, d2, d3, d4, d5, d6, d7] => { results := [.lit (.bool false)], args := [d1, d2, d3, d4, d5, d6, d7] }
  | _ => none }
def LeaflockLocksWrongFalsely : Prop := leaflockLocksRow.holds Tryz.pinned (OpenSpec.ofChange leaflockLocksWrong)

/-- 'blinktreelaw12.LeaflockMovesRight': WHATEVER THE INPUT: true; the input reads as it did. -/
def leaflockMovesRightSpec : ChangeSpec := { name := "leaflockMovesRight", fn := fun _ => fun
  | [d1, d2, d3, d4, d5] => { results := [.lit (.bool true)], args := [d1, d2, d3, d4, d5] }
  | _ => none }
def leaflockMovesRightRow : OpenClaim := { program := "ytlpdhhhgckpcfaagreat", sum := "79999523226058bb29b824b26adbbaf32276dc5179e72fd2b2718ae62049df42", func := "blinktree/blinktreelaw12.LeaflockMovesRight", spec := "leaflockMovesRight", unfollowed := true, recurses := true, plainKeys := false, apart := false }
def LeaflockMovesRightSaid : Prop := leaflockMovesRightRow.holds Tryz.pinned (OpenSpec.ofChange leaflockMovesRightSpec)

/-- ITS FALSE NEIGHBOUR: 'it returns false'. Refute it at one input. -/
def leaflockMovesRightWrong : ChangeSpec := { name := "leaflockMovesRight", fn := fun _ => fun
  | [d1, d2, d3, d4, d5] => { results := [.lit (.bool false)], args := [d1, d2, d3, d4, d5] }
  | _ => none }
def LeaflockMovesRightWrongFalsely : Prop := leaflockMovesRightRow.holds Tryz.pinned (OpenSpec.ofChange leaflockMovesRightWrong)

/-- 'blinktreelaw13.InsertLosesNothing': WHATEVER THE INPUT: true; the input reads as it did. -/
def insertLosesNothingSpec : ChangeSpec := { name := "insertLosesNothing", fn := fun _ => fun
  | [d1, d2, d3, d4, d5] => { results := [.lit (.bool true)], args := [d1, d2, d3, d4, d5] }
  | _ => none }
def insertLosesNothingRow : OpenClaim := { program := "ytlpdhhhgckpcfaagreat", sum := "79999523226058bb29b824b26adbbaf32276dc5179e72fd2b2718ae62049df42", func := "blinktree/blinktreelaw13.InsertLosesNothing", spec := "insertLosesNothing", unfollowed := true, recurses := true, plainKeys := false, apart := false }
def InsertLosesNothingSaid : Prop := insertLosesNothingRow.holds Tryz.pinned (OpenSpec.ofChange insertLosesNothingSpec)

/-- ITS FALSE NEIGHBOUR: 'it returns false'. Refute it at one input. -/
def insertLosesNothingWrong : ChangeSpec := { name := "insertLosesNothing", fn := fun _ => fun
  | [d1, d2, d3, d4, d5] => { results := [.lit (.bool false)], args := [d1, d2, d3, d4, d5] }
  | _ => none }
def InsertLosesNothingWrongFalsely : Prop := insertLosesNothingRow.holds Tryz.pinned (OpenSpec.ofChange insertLosesNothingWrong)

/-- 'blinktreelaw13.InsertRow': WHATEVER THE INPUT: true; the input reads as it did. -/
def insertRowSpec : ChangeSpec := { name := "insertRow", fn := fun _ => fun
  | [d1, d2] => { results := [.lit (.bool true)], args := [d1, d2] }
  | _ => none }
def insertRowRow : OpenClaim := { program := "ytlpdhhhgckpcfaagreat", sum := "79999523226058bb29b824b26adbbaf32276dc5179e72fd2b2718ae62049df42", func := "blinktree/blinktreelaw13.InsertRow", spec := "insertRow", unfollowed := true, recurses := true, plainKeys := false, apart := false }
def InsertRowSaid : Prop := insertRowRow.holds Tryz.pinned (OpenSpec.ofChange insertRowSpec)

/-- ITS FALSE NEIGHBOUR: 'it returns false'. Refute it at one input. -/
def insertRowWrong : ChangeSpec := { name := "insertRow", fn := fun _ => fun
  | [d1, d2] => { results := [.lit (.bool false)], args := [d1, d2] }
  | _ => none }
def InsertRowWrongFalsely : Prop := insertRowRow.holds Tryz.pinned (OpenSpec.ofChange insertRowWrong)

/-- 'blinktreelaw14.PostWithoutNodes': WHATEVER THE INPUT: true; the input reads as it did. -/
def postWithoutNodesSpec : ChangeSpec := { name := "postWithoutNodes", fn := fun _ => fun
  | [d1, d2, d3, d4, d5] => { results := [.lit (.bool true)], args := [d1, d2, d3, d4, d5] }
  | _ => none }
def postWithoutNodesRow : OpenClaim := { program := "ytlpdhhhgckpcfaagreat", sum := "79999523226058bb29b824b26adbbaf32276dc5179e72fd2b2718ae62049df42", func := "blinktree/blinktreelaw14.PostWithoutNodes", spec := "postWithoutNodes", unfollowed := true, recurses := true, plainKeys := false, apart := false }
def PostWithoutNodesSaid : Prop := postWithoutNodesRow.holds Tryz.pinned (OpenSpec.ofChange postWithoutNodesSpec)

/-- ITS FALSE NEIGHBOUR: 'it returns false'. Refute it at one input. -/
def postWithoutNodesWrong : ChangeSpec := { name := "postWithoutNodes", fn := fun _ => fun
  | [d1, d2, d3, d4, d5] => { results := [.lit (.bool false)], args := [d1, d2, d3, d4, d5] }
  | _ => none }
def PostWithoutNodesWrongFalsely : Prop := postWithoutNodesRow.holds Tryz.pinned (OpenSpec.ofChange postWithoutNodesWrong)

/-- 'blinktreelaw14.PostKeepsReaders': WHATEVER THE INPUT: true; the input reads as it did. -/
def postKeepsReadersSpec : ChangeSpec := { name := "postKeepsReaders", fn := fun _ => fun
  | [d1, d2, d3, d4, d5] => { results := [.lit (.bool true)], args := [d1, d2, d3, d4, d5] }
  | _ => none }
def postKeepsReadersRow : OpenClaim := { program := "ytlpdhhhgckpcfaagreat", sum := "79999523226058bb29b824b26adbbaf32276dc5179e72fd2b2718ae62049df42", func := "blinktree/blinktreelaw14.PostKeepsReaders", spec := "postKeepsReaders", unfollowed := true, recurses := true, plainKeys := false, apart := false }
def PostKeepsReadersSaid : Prop := postKeepsReadersRow.holds Tryz.pinned (OpenSpec.ofChange postKeepsReadersSpec)

/-- ITS FALSE NEIGHBOUR: 'it returns false'. Refute it at one input. -/
def postKeepsReadersWrong : ChangeSpec := { name := "postKeepsReaders", fn := fun _ => fun
  | [d1, d2, d3, d4, d5] => { results := [.lit (.bool false)], args := [d1, d2, d3, d4, d5] }
  | _ => none }
def PostKeepsReadersWrongFalsely : Prop := postKeepsReadersRow.holds Tryz.pinned (OpenSpec.ofChange postKeepsReadersWrong)

/-- 'blinktreelaw14.PostEnters': WHATEVER THE INPUT: true; the input reads as it did. -/
def postEntersSpec : ChangeSpec := { name := "postEnters", fn := fun _ => fun
  | [d1, d2, d3, d4, d5] => { results := [.lit (.bool true)], args := [d1, d2, d3, d4, d5] }
  | _ => none }
def postEntersRow : OpenClaim := { program := "ytlpdhhhgckpcfaagreat", sum := "79999523226058bb29b824b26adbbaf32276dc5179e72fd2b2718ae62049df42", func := "blinktree/blinktreelaw14.PostEnters", spec := "postEnters", unfollowed := true, recurses := true, plainKeys := false, apart := false }
def PostEntersSaid : Prop := postEntersRow.holds Tryz.pinned (OpenSpec.ofChange postEntersSpec)

/-- ITS FALSE NEIGHBOUR: 'it returns false'. Refute it at one input. -/
def postEntersWrong : ChangeSpec := { name := "postEnters", fn := fun _ => fun
  | [d1, d2, d3, d4, d5] => { results := [.lit (.bool false)], args := [d1, d2, d3, d4, d5] }
  | _ => none }
def PostEntersWrongFalsely : Prop := postEntersRow.holds Tryz.pinned (OpenSpec.ofChange postEntersWrong)

/-- 'blinktreelaw14.PostsTogether': WHATEVER THE INPUT: true; the input reads as it did. -/
def postsTogetherSpec : ChangeSpec := { name := "postsTogether", fn := fun _ => fun
  | [d1, d2, d3, d4, d5, d6] => { results := [.lit (.bool true)], args := [d1, d2, d3, d4, d5, d6] }
  | _ => none }
def postsTogetherRow : OpenClaim := { program := "ytlpdhhhgckpcfaagreat", sum := "79999523226058bb29b824b26adbbaf32276dc5179e72fd2b2718ae62049df42", func := "blinktree/blinktreelaw14.PostsTogether", spec := "postsTogether", unfollowed := true, recurses := true, plainKeys := false, apart := false }
def PostsTogetherSaid : Prop := postsTogetherRow.holds Tryz.pinned (OpenSpec.ofChange postsTogetherSpec)

/-- ITS FALSE NEIGHBOUR: 'it returns false'. Refute it at one input. -/
def postsTogetherWrong : ChangeSpec := { name := "postsTogether", fn := fun _ => fun
  | [d1, d2, d3, d4, d5, d6] => { results := [.lit (.bool false)], args := [d1, d2, d3, d4, d5, d6] }
  | _ => none }
def PostsTogetherWrongFalsely : Prop := postsTogetherRow.holds Tryz.pinned (OpenSpec.ofChange postsTogetherWrong)

/- THE SECOND FORM. 'bulk': how many values and letters a reading holds, each counted each time it is reached (what is shared counts as often as it is met; a slice's spare places count too). A statement '..UptoSaid' is the law's where the arguments, and the package variables that the reading takes, are together of bulk at most 1048576: NARROWER than '..Said'. Prove '..Said' where nothing that the law and all that it calls make is longer than what came in: it says more and counts as full. Else prove '..UptoSaid'. A law counts once. -/
mutual
def uptoBulk {H : Type} : DataW H → Nat
  | .lit (.string bytes) => bytes.length + 1
  | .lit _ => 1
  | .nil => 1
  | .ptr d => uptoBulk d + 1
  | .slice elems spare => uptoBulkAll elems + uptoBulkAll spare + 1
  | .agg parts => uptoBulkAll parts + 1
  | .iface _ d => uptoBulk d + 1
  | .map entries => uptoBulkEntries entries + 1
  | .held _ => 1
def uptoBulkAll {H : Type} : List (DataW H) → Nat
  | [] => 0
  | d :: r => uptoBulk d + uptoBulkAll r
def uptoBulkEntries {H : Type} : List (Lit × DataW H) → Nat
  | [] => 0
  | x :: r => uptoBulkEntry x + uptoBulkEntries r
def uptoBulkEntry {H : Type} : Lit × DataW H → Nat
  | (.string bytes, d) => bytes.length + uptoBulk d + 1
  | (_, d) => uptoBulk d + 1
 end
def uptoSmall : (H : Type) → List (DataW H) → Bool := fun _ ds => decide (uptoBulkAll ds ≤ 1048576)
def OpenSpec.upto (s : _root_.Go.ChangeSpec) : _root_.Go.OpenSpec := { _root_.Go.OpenSpec.ofChange s with cond := some uptoSmall }

/-- 'blinktreelaw12.LeaflockExcludes', WHERE WHAT IT READS IS OF BULK AT MOST 1048576: true; the input reads as it did. -/
def leaflockExcludesUptoRow : OpenClaim := { program := "ytlpdhhhgckpcfaagreat", sum := "79999523226058bb29b824b26adbbaf32276dc5179e72fd2b2718ae62049df42", func := "blinktree/blinktreelaw12.LeaflockExcludes", spec := "leaflockExcludes", unfollowed := true, recurses := true, plainKeys := false, apart := false, narrowed := true }
def LeaflockExcludesUptoSaid : Prop := leaflockExcludesUptoRow.holds Tryz.pinned (OpenSpec.upto leaflockExcludesSpec)

/-- 'blinktreelaw12.LeaflockLocks', WHERE WHAT IT READS IS OF BULK AT MOST 1048576: true; the input reads as it did. -/
def leaflockLocksUptoRow : OpenClaim := { program := "ytlpdhhhgckpcfaagreat", sum := "79999523226058bb29b824b26adbbaf32276dc5179e72fd2b2718ae62049df42", func := "blinktree/blinktreelaw12.LeaflockLocks", spec := "leaflockLocks", unfollowed := true, recurses := true, plainKeys := false, apart := false, narrowed := true }
def LeaflockLocksUptoSaid : Prop := leaflockLocksUptoRow.holds Tryz.pinned (OpenSpec.upto leaflockLocksSpec)

/-- 'blinktreelaw12.LeaflockMovesRight', WHERE WHAT IT READS IS OF BULK AT MOST 1048576: true; the input reads as it did. -/
def leaflockMovesRightUptoRow : OpenClaim := { program := "ytlpdhhhgckpcfaagreat", sum := "79999523226058bb29b824b26adbbaf32276dc5179e72fd2b2718ae62049df42", func := "blinktree/blinktreelaw12.LeaflockMovesRight", spec := "leaflockMovesRight", unfollowed := true, recurses := true, plainKeys := false, apart := false, narrowed := true }
def LeaflockMovesRightUptoSaid : Prop := leaflockMovesRightUptoRow.holds Tryz.pinned (OpenSpec.upto leaflockMovesRightSpec)

/-- 'blinktreelaw13.InsertLosesNothing', WHERE WHAT IT READS IS OF BULK AT MOST 1048576: true; the input reads as it did. -/
def insertLosesNothingUptoRow : OpenClaim := { program := "ytlpdhhhgckpcfaagreat", sum := "79999523226058bb29b824b26adbbaf32276dc5179e72fd2b2718ae62049df42", func := "blinktree/blinktreelaw13.InsertLosesNothing", spec := "insertLosesNothing", unfollowed := true, recurses := true, plainKeys := false, apart := false, narrowed := true }
def InsertLosesNothingUptoSaid : Prop := insertLosesNothingUptoRow.holds Tryz.pinned (OpenSpec.upto insertLosesNothingSpec)

/-- 'blinktreelaw13.InsertRow', WHERE WHAT IT READS IS OF BULK AT MOST 1048576: true; the input reads as it did. -/
def insertRowUptoRow : OpenClaim := { program := "ytlpdhhhgckpcfaagreat", sum := "79999523226058bb29b824b26adbbaf32276dc5179e72fd2b2718ae62049df42", func := "blinktree/blinktreelaw13.InsertRow", spec := "insertRow", unfollowed := true, recurses := true, plainKeys := false, apart := false, narrowed := true }
def InsertRowUptoSaid : Prop := insertRowUptoRow.holds Tryz.pinned (OpenSpec.upto insertRowSpec)

/-- 'blinktreelaw14.PostWithoutNodes', WHERE WHAT IT READS IS OF BULK AT MOST 1048576: true; the input reads as it did. -/
def postWithoutNodesUptoRow : OpenClaim := { program := "ytlpdhhhgckpcfaagreat", sum := "79999523226058bb29b824b26adbbaf32276dc5179e72fd2b2718ae62049df42", func := "blinktree/blinktreelaw14.PostWithoutNodes", spec := "postWithoutNodes", unfollowed := true, recurses := true, plainKeys := false, apart := false, narrowed := true }
def PostWithoutNodesUptoSaid : Prop := postWithoutNodesUptoRow.holds Tryz.pinned (OpenSpec.upto postWithoutNodesSpec)

/-- 'blinktreelaw14.PostKeepsReaders', WHERE WHAT IT READS IS OF BULK AT MOST 1048576: true; the input reads as it did. -/
def postKeepsReadersUptoRow : OpenClaim := { program := "ytlpdhhhgckpcfaagreat", sum := "79999523226058bb29b824b26adbbaf32276dc5179e72fd2b2718ae62049df42", func := "blinktree/blinktreelaw14.PostKeepsReaders", spec := "postKeepsReaders", unfollowed := true, recurses := true, plainKeys := false, apart := false, narrowed := true }
def PostKeepsReadersUptoSaid : Prop := postKeepsReadersUptoRow.holds Tryz.pinned (OpenSpec.upto postKeepsReadersSpec)

/-- 'blinktreelaw14.PostEnters', WHERE WHAT IT READS IS OF BULK AT MOST 1048576: true; the input reads as it did. -/
def postEntersUptoRow : OpenClaim := { program := "ytlpdhhhgckpcfaagreat", sum := "79999523226058bb29b824b26adbbaf32276dc5179e72fd2b2718ae62049df42", func := "blinktree/blinktreelaw14.PostEnters", spec := "postEnters", unfollowed := true, recurses := true, plainKeys := false, apart := false, narrowed := true }
def PostEntersUptoSaid : Prop := postEntersUptoRow.holds Tryz.pinned (OpenSpec.upto postEntersSpec)

/-- 'blinktreelaw14.PostsTogether', WHERE WHAT IT READS IS OF BULK AT MOST 1048576: true; the input reads as it did. -/
def postsTogetherUptoRow : OpenClaim := { program := "ytlpdhhhgckpcfaagreat", sum := "79999523226058bb29b824b26adbbaf32276dc5179e72fd2b2718ae62049df42", func := "blinktree/blinktreelaw14.PostsTogether", spec := "postsTogether", unfollowed := true, recurses := true, plainKeys := false, apart := false, narrowed := true }
def PostsTogetherUptoSaid : Prop := postsTogetherUptoRow.holds Tryz.pinned (OpenSpec.upto postsTogetherSpec)

end Rows
end Go.Proofs.YtlpdhhhgckpcfaaGreat
