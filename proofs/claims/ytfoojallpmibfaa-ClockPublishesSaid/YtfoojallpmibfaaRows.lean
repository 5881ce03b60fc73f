/-
  No cell of these rows narrows 'for every input' (looked for: loops, veiled, ifaces, maps, wideKeys, modest, calm, conditions, laid).
  DERIVED. THE GIVEN ROWS OF THIS SEAT. 11 by the template 'for every input the law returns true; each argument reads behind the call as it read before'; 0 by the template 'total and deterministic' (their statements: YtfoojallpmibfaaTotals.lean).
  GIVEN WITH THE SEED: the statements are not yours to turn. If you find one false, say at which input.
  Laid BY PROGRAM, IN A SANDBOX (cutbox-rows.mjs): the forced cells as the released guide's own fill.sh prints them over the translation e9ccc80a86f5ab31… (all of the seat's roots in one cut). By AI agents, Wed Nov 11 2026. No macro, syntax, notation, axiom, sorry.
-/
import Derived.Test.YtfoojallpmibfaaChecked
import GoSem.Claim
import GoSem.ClaimJoined
import GoSem.ClaimMapViews
import Derived.JoinedTies
import Derived.KernelRfl
namespace Go.Proofs.Ytfoojallpmibfaa
/- THE CELL 'sum', in the pinned program and in every row, IS THE sha256 OF THE DUMP (.gsa) THAT YtfoojallpmibfaaProg.lean LOADS. Nothing in Lean hashes anything: it is a label: what it is worth is what the hold of that sum in a sandbox is worth. -/
noncomputable def Try.pinned : Pinned := { name := "ytfoojallpmibfaa", sum := "e9ccc80a86f5ab3147318f8fa7f265fc51e84af992037ad2e729fe13667aa678", checked := Try.checked }
namespace Rows
def none {H : Type} : Left H := { results := [], args := [] }

/-- 'blinktreelaw3.LayoutRegions': WHATEVER THE INPUT: true; the input reads as it did. -/
def layoutRegionsSpec : ChangeSpec := { name := "layoutRegions", fn := fun _ => fun
  | [d1, d2, d3, d4, d5, d6, d7] => { results := [.lit (.bool true)], args := [d1, d2, d3, d4, d5, d6, d7] }
  | _ => none }
def layoutRegionsRow : OpenClaim := { program := "ytfoojallpmibfaa", sum := "e9ccc80a86f5ab3147318f8fa7f265fc51e84af992037ad2e729fe13667aa678", func := "blinktree/blinktreelaw3.LayoutRegions", spec := "layoutRegions", apart := false }
def LayoutRegionsSaid : Prop := layoutRegionsRow.holds Try.pinned (OpenSpec.ofChange layoutRegionsSpec)

/-- ITS FALSE NEIGHBOUR: 'it returns false'. Refute it at one input. -/
def layoutRegionsWrong : ChangeSpec := { name := "layoutRegions", fn := fun _ => fun
  | [d1, d2, d3, d4, d5, d6, d7] => { results := [.lit (.bool false)], args := [d1, d2, d3, d4, d5, d6, d7] }
  | _ => none }
def LayoutRegionsWrongFalsely : Prop := layoutRegionsRow.holds Try.pinned (OpenSpec.ofChange layoutRegionsWrong)

/-- 'blinktreelaw3.LayoutAddresses': WHATEVER THE INPUT: true; the input reads as it did. -/
def layoutAddressesSpec : ChangeSpec := { name := "layoutAddresses", fn := fun _ => fun
  | [d1, d2, d3, d4, d5] => { results := [.lit (.bool true)], args := [d1, d2, d3, d4, d5] }
  | _ => none }
def layoutAddressesRow : OpenClaim := { program := "ytfoojallpmibfaa", sum := "e9ccc80a86f5ab3147318f8fa7f265fc51e84af992037ad2e729fe13667aa678", func := "blinktree/blinktreelaw3.LayoutAddresses", spec := "layoutAddresses", apart := false }
def LayoutAddressesSaid : Prop := layoutAddressesRow.holds Try.pinned (OpenSpec.ofChange layoutAddressesSpec)

/-- ITS FALSE NEIGHBOUR: 'it returns false'. Refute it at one input. -/
def layoutAddressesWrong : ChangeSpec := { name := "layoutAddresses", fn := fun _ => fun
  | [d1, d2, d3, d4, d5] => { results := [.lit (.bool false)], args := [d1, d2, d3, d4, d5] }
  | _ => none }
def LayoutAddressesWrongFalsely : Prop := layoutAddressesRow.holds Try.pinned (OpenSpec.ofChange layoutAddressesWrong)

/-- 'blinktreelaw3.LayoutIsExact': WHATEVER THE INPUT: true; the input reads as it did. -/
def layoutIsExactSpec : ChangeSpec := { name := "layoutIsExact", fn := fun _ => fun
  | [d] => { results := [.lit (.bool true)], args := [d] }
  | _ => none }
def layoutIsExactRow : OpenClaim := { program := "ytfoojallpmibfaa", sum := "e9ccc80a86f5ab3147318f8fa7f265fc51e84af992037ad2e729fe13667aa678", func := "blinktree/blinktreelaw3.LayoutIsExact", spec := "layoutIsExact", apart := false }
def LayoutIsExactSaid : Prop := layoutIsExactRow.holds Try.pinned (OpenSpec.ofChange layoutIsExactSpec)

/-- ITS FALSE NEIGHBOUR: 'it returns false'. Refute it at one input. -/
def layoutIsExactWrong : ChangeSpec := { name := "layoutIsExact", fn := fun _ => fun
  | [d] => { results := [.lit (.bool false)], args := [d] }
  | _ => none }
def LayoutIsExactWrongFalsely : Prop := layoutIsExactRow.holds Try.pinned (OpenSpec.ofChange layoutIsExactWrong)

/-- 'blinktreelaw5.AllocTakes': WHATEVER THE INPUT: true; the input reads as it did. -/
def allocTakesSpec : ChangeSpec := { name := "allocTakes", fn := fun _ => fun
  | [d1, d2, d3, d4] => { results := [.lit (.bool true)], args := [d1, d2, d3, d4] }
  | _ => none }
def allocTakesRow : OpenClaim := { program := "ytfoojallpmibfaa", sum := "e9ccc80a86f5ab3147318f8fa7f265fc51e84af992037ad2e729fe13667aa678", func := "blinktree/blinktreelaw5.AllocTakes", spec := "allocTakes", unfollowed := true, recurses := true, apart := false }
def AllocTakesSaid : Prop := allocTakesRow.holds Try.pinned (OpenSpec.ofChange allocTakesSpec)

/-- ITS FALSE NEIGHBOUR: 'it returns false'. Refute it at one input. -/
def allocTakesWrong : ChangeSpec := { name := "allocTakes", fn := fun _ => fun
  | [d1, d2, d3, d4] => { results := [.lit (.bool false)], args := [d1, d2, d3, d4] }
  | _ => none }
def AllocTakesWrongFalsely : Prop := allocTakesRow.holds Try.pinned (OpenSpec.ofChange allocTakesWrong)

/-- 'blinktreelaw3.LayoutValidates': WHATEVER THE INPUT: true; the input reads as it did. -/
def layoutValidatesSpec : ChangeSpec := { name := "layoutValidates", fn := fun _ => fun
  | [d] => { results := [.lit (.bool true)], args := [d] }
  | _ => none }
def layoutValidatesRow : OpenClaim := { program := "ytfoojallpmibfaa", sum := "e9ccc80a86f5ab3147318f8fa7f265fc51e84af992037ad2e729fe13667aa678", func := "blinktree/blinktreelaw3.LayoutValidates", spec := "layoutValidates", apart := false }
def LayoutValidatesSaid : Prop := layoutValidatesRow.holds Try.pinned (OpenSpec.ofChange layoutValidatesSpec)

/-- ITS FALSE NEIGHBOUR: 'it returns false'. Refute it at one input. -/
def layoutValidatesWrong : ChangeSpec := { name := "layoutValidates", fn := fun _ => fun
  | [d] => { results := [.lit (.bool false)], args := [d] }
  | _ => none }
def LayoutValidatesWrongFalsely : Prop := layoutValidatesRow.holds Try.pinned (OpenSpec.ofChange layoutValidatesWrong)

/-- 'blinktreelaw3.LayoutStarts': WHATEVER THE INPUT: true; the input reads as it did. -/
def layoutStartsSpec : ChangeSpec := { name := "layoutStarts", fn := fun _ => fun
  | [d] => { results := [.lit (.bool true)], args := [d] }
  | _ => none }
def layoutStartsRow : OpenClaim := { program := "ytfoojallpmibfaa", sum := "e9ccc80a86f5ab3147318f8fa7f265fc51e84af992037ad2e729fe13667aa678", func := "blinktree/blinktreelaw3.LayoutStarts", spec := "layoutStarts", apart := false }
def LayoutStartsSaid : Prop := layoutStartsRow.holds Try.pinned (OpenSpec.ofChange layoutStartsSpec)

/-- ITS FALSE NEIGHBOUR: 'it returns false'. Refute it at one input. -/
def layoutStartsWrong : ChangeSpec := { name := "layoutStarts", fn := fun _ => fun
  | [d] => { results := [.lit (.bool false)], args := [d] }
  | _ => none }
def LayoutStartsWrongFalsely : Prop := layoutStartsRow.holds Try.pinned (OpenSpec.ofChange layoutStartsWrong)

/-- 'blinktreelaw5.AllocTakesAndRaises': WHATEVER THE INPUT: true; the input reads as it did. -/
def allocTakesAndRaisesSpec : ChangeSpec := { name := "allocTakesAndRaises", fn := fun _ => fun
  | [d1, d2, d3] => { results := [.lit (.bool true)], args := [d1, d2, d3] }
  | _ => none }
def allocTakesAndRaisesRow : OpenClaim := { program := "ytfoojallpmibfaa", sum := "e9ccc80a86f5ab3147318f8fa7f265fc51e84af992037ad2e729fe13667aa678", func := "blinktree/blinktreelaw5.AllocTakesAndRaises", spec := "allocTakesAndRaises", unfollowed := true, recurses := true, apart := false }
def AllocTakesAndRaisesSaid : Prop := allocTakesAndRaisesRow.holds Try.pinned (OpenSpec.ofChange allocTakesAndRaisesSpec)

/-- ITS FALSE NEIGHBOUR: 'it returns false'. Refute it at one input. -/
def allocTakesAndRaisesWrong : ChangeSpec := { name := "allocTakesAndRaises", fn := fun _ => fun
  | [d1, d2, d3] => { results := [.lit (.bool false)], args := [d1, d2, d3] }
  | _ => none }
def AllocTakesAndRaisesWrongFalsely : Prop := allocTakesAndRaisesRow.holds Try.pinned (OpenSpec.ofChange allocTakesAndRaisesWrong)

/-- 'blinktreelaw5.AllocRaises': WHATEVER THE INPUT: true; the input reads as it did. -/
def allocRaisesSpec : ChangeSpec := { name := "allocRaises", fn := fun _ => fun
  | [d1, d2, d3] => { results := [.lit (.bool true)], args := [d1, d2, d3] }
  | _ => none }
def allocRaisesRow : OpenClaim := { program := "ytfoojallpmibfaa", sum := "e9ccc80a86f5ab3147318f8fa7f265fc51e84af992037ad2e729fe13667aa678", func := "blinktree/blinktreelaw5.AllocRaises", spec := "allocRaises", unfollowed := true, recurses := true, apart := false }
def AllocRaisesSaid : Prop := allocRaisesRow.holds Try.pinned (OpenSpec.ofChange allocRaisesSpec)

/-- ITS FALSE NEIGHBOUR: 'it returns false'. Refute it at one input. -/
def allocRaisesWrong : ChangeSpec := { name := "allocRaises", fn := fun _ => fun
  | [d1, d2, d3] => { results := [.lit (.bool false)], args := [d1, d2, d3] }
  | _ => none }
def AllocRaisesWrongFalsely : Prop := allocRaisesRow.holds Try.pinned (OpenSpec.ofChange allocRaisesWrong)

/-- 'blinktreelaw6.ClockPublishes': WHATEVER THE INPUT: true; the input reads as it did. -/
def clockPublishesSpec : ChangeSpec := { name := "clockPublishes", fn := fun _ => fun
  | [d1, d2, d3] => { results := [.lit (.bool true)], args := [d1, d2, d3] }
  | _ => none }
def clockPublishesRow : OpenClaim := { program := "ytfoojallpmibfaa", sum := "e9ccc80a86f5ab3147318f8fa7f265fc51e84af992037ad2e729fe13667aa678", func := "blinktree/blinktreelaw6.ClockPublishes", spec := "clockPublishes", unfollowed := true, recurses := true, apart := false }
def ClockPublishesSaid : Prop := clockPublishesRow.holds Try.pinned (OpenSpec.ofChange clockPublishesSpec)

/-- ITS FALSE NEIGHBOUR: 'it returns false'. Refute it at one input. -/
def clockPublishesWrong : ChangeSpec := { name := "clockPublishes", fn := fun _ => fun
  | [d1, d2, d3] => { results := [.lit (.bool false)], args := [d1, d2, d3] }
  | _ => none }
def ClockPublishesWrongFalsely : Prop := clockPublishesRow.holds Try.pinned (OpenSpec.ofChange clockPublishesWrong)

/-- 'blinktreelaw6.ClockNow': WHATEVER THE INPUT: true; the input reads as it did. -/
def clockNowSpec : ChangeSpec := { name := "clockNow", fn := fun _ => fun
  | [d1, d2] => { results := [.lit (.bool true)], args := [d1, d2] }
  | _ => none }
def clockNowRow : OpenClaim := { program := "ytfoojallpmibfaa", sum := "e9ccc80a86f5ab3147318f8fa7f265fc51e84af992037ad2e729fe13667aa678", func := "blinktree/blinktreelaw6.ClockNow", spec := "clockNow", unfollowed := true, recurses := true, apart := false }
def ClockNowSaid : Prop := clockNowRow.holds Try.pinned (OpenSpec.ofChange clockNowSpec)

/-- ITS FALSE NEIGHBOUR: 'it returns false'. Refute it at one input. -/
def clockNowWrong : ChangeSpec := { name := "clockNow", fn := fun _ => fun
  | [d1, d2] => { results := [.lit (.bool false)], args := [d1, d2] }
  | _ => none }
def ClockNowWrongFalsely : Prop := clockNowRow.holds Try.pinned (OpenSpec.ofChange clockNowWrong)

/-- 'blinktreelaw6.ClockWaits': WHATEVER THE INPUT: true; the input reads as it did. -/
def clockWaitsSpec : ChangeSpec := { name := "clockWaits", fn := fun _ => fun
  | [d1, d2, d3] => { results := [.lit (.bool true)], args := [d1, d2, d3] }
  | _ => none }
def clockWaitsRow : OpenClaim := { program := "ytfoojallpmibfaa", sum := "e9ccc80a86f5ab3147318f8fa7f265fc51e84af992037ad2e729fe13667aa678", func := "blinktree/blinktreelaw6.ClockWaits", spec := "clockWaits", unfollowed := true, recurses := true, apart := false }
def ClockWaitsSaid : Prop := clockWaitsRow.holds Try.pinned (OpenSpec.ofChange clockWaitsSpec)

/-- ITS FALSE NEIGHBOUR: 'it returns false'. Refute it at one input. -/
def clockWaitsWrong : ChangeSpec := { name := "clockWaits", fn := fun _ => fun
  | [d1, d2, d3] => { results := [.lit (.bool false)], args := [d1, d2, d3] }
  | _ => none }
def ClockWaitsWrongFalsely : Prop := clockWaitsRow.holds Try.pinned (OpenSpec.ofChange clockWaitsWrong)

/- THE SECOND FORM. 'bulk': how many values and letters a reading holds, each counted each time it is reached (what is shared counts as often as it is met; a slice's spare places count too). A statement '..UptoSaid' is the law's where the arguments, and the package variables that the reading takes, are together of bulk at most 1048576: NARROWER than '..Said'. Prove '..Said' where nothing that the law and all that it calls make is longer than what came in: it says more and counts as full. Else prove '..UptoSaid'. A law counts once. -/
mutual
def uptoBulk {H : Type} : DataW H → Nat
  | .lit (.string bytes) => bytes.length + 1
  | .lit _ => 1
  | .nil => 1
  | .ptr d => uptoBulk d + 1
  | .slice elems spare => uptoBulkAll elems + uptoBulkAll spare + 1
  | .agg parts => uptoBulkAll parts + 1
  | .iface _ d => uptoBulk d + 1
  | .map entries => uptoBulkEntries entries + 1
  | .held _ => 1
def uptoBulkAll {H : Type} : List (DataW H) → Nat
  | [] => 0
  | d :: r => uptoBulk d + uptoBulkAll r
def uptoBulkEntries {H : Type} : List (Lit × DataW H) → Nat
  | [] => 0
  | x :: r => uptoBulkEntry x + uptoBulkEntries r
def uptoBulkEntry {H : Type} : Lit × DataW H → Nat
  | (.string bytes, d) => bytes.length + uptoBulk d + 1
  | (_, d) => uptoBulk d + 1
 end
def uptoSmall : (H : Type) → List (DataW H) → Bool := fun _ ds => decide (uptoBulkAll ds ≤ 1048576)
def OpenSpec.upto (s : _root_.Go.ChangeSpec) : _root_.Go.OpenSpec := { _root_.Go.OpenSpec.ofChange s with cond := some uptoSmall }

/-- 'blinktreelaw3.LayoutRegions', WHERE WHAT IT READS IS OF BULK AT MOST 1048576: true; the input reads as it did. -/
def layoutRegionsUptoRow : OpenClaim := { program := "ytfoojallpmibfaa", sum := "e9ccc80a86f5ab3147318f8fa7f265fc51e84af992037ad2e729fe13667aa678", func := "blinktree/blinktreelaw3.LayoutRegions", spec := "layoutRegions", apart := false, narrowed := true }
def LayoutRegionsUptoSaid : Prop := layoutRegionsUptoRow.holds Try.pinned (OpenSpec.upto layoutRegionsSpec)

/-- 'blinktreelaw3.LayoutAddresses', WHERE WHAT IT READS IS OF BULK AT MOST 1048576: true; the input reads as it did. -/
def layoutAddressesUptoRow : OpenClaim := { program := "ytfoojallpmibfaa", sum := "e9ccc80a86f5ab3147318f8fa7f265fc51e84af992037ad2e729fe13667aa678", func := "blinktree/blinktreelaw3.LayoutAddresses", spec := "layoutAddresses", apart := false, narrowed := true }
def LayoutAddressesUptoSaid : Prop := layoutAddressesUptoRow.holds Try.pinned (OpenSpec.upto layoutAddressesSpec)

/-- 'blinktreelaw3.LayoutIsExact', WHERE WHAT IT READS IS OF BULK AT MOST 1048576: true; the input reads as it did. -/
def layoutIsExactUptoRow : OpenClaim := { program := "ytfoojallpmibfaa", sum := "e9ccc80a86f5ab3147318f8fa7f265fc51e84af992037ad2e729fe13667aa678", func := "blinktree/blinktreelaw3.LayoutIsExact", spec := "layoutIsExact", apart := false, narrowed := true }
def LayoutIsExactUptoSaid : Prop := layoutIsExactUptoRow.holds Try.pinned (OpenSpec.upto layoutIsExactSpec)

/-- 'blinktreelaw5.AllocTakes', WHERE WHAT IT READS IS OF BULK AT MOST 1048576: true; the input reads as it did. -/
def allocTakesUptoRow : OpenClaim := { program := "ytfoojallpmibfaa", sum := "e9ccc80a86f5ab3147318f8fa7f265fc51e84af992037ad2e729fe13667aa678", func := "blinktree/blinktreelaw5.AllocTakes", spec := "allocTakes", unfollowed := true, recurses := true, apart := false, narrowed := true }
def AllocTakesUptoSaid : Prop := allocTakesUptoRow.holds Try.pinned (OpenSpec.upto allocTakesSpec)

/-- 'blinktreelaw3.LayoutValidates', WHERE WHAT IT READS IS OF BULK AT MOST 1048576: true; the input reads as it did. -/
def layoutValidatesUptoRow : OpenClaim := { program := "ytfoojallpmibfaa", sum := "e9ccc80a86f5ab3147318f8fa7f265fc51e84af992037ad2e729fe13667aa678", func := "blinktree/blinktreelaw3.LayoutValidates", spec := "layoutValidates", apart := false, narrowed := true }
def LayoutValidatesUptoSaid : Prop := layoutValidatesUptoRow.holds Try.pinned (OpenSpec.upto layoutValidatesSpec)

/-- 'blinktreelaw3.LayoutStarts', WHERE WHAT IT READS IS OF BULK AT MOST 1048576: true; the input reads as it did. -/
def layoutStartsUptoRow : OpenClaim := { program := "ytfoojallpmibfaa", sum := "e9ccc80a86f5ab3147318f8fa7f265fc51e84af992037ad2e729fe13667aa678", func := "blinktree/blinktreelaw3.LayoutStarts", spec := "layoutStarts", apart := false, narrowed := true }
def LayoutStartsUptoSaid : Prop := layoutStartsUptoRow.holds Try.pinned (OpenSpec.upto layoutStartsSpec)

/-- 'blinktreelaw5.AllocTakesAndRaises', WHERE WHAT IT READS IS OF BULK AT MOST 1048576: true; the input reads as it did. -/
def allocTakesAndRaisesUptoRow : OpenClaim := { program := "ytfoojallpmibfaa", sum := "e9ccc80a86f5ab3147318f8fa7f265fc51e84af992037ad2e729fe13667aa678", func := "blinktree/blinktreelaw5.AllocTakesAndRaises", spec := "allocTakesAndRaises", unfollowed := true, recurses := true, apart := false, narrowed := true }
def AllocTakesAndRaisesUptoSaid : Prop := allocTakesAndRaisesUptoRow.holds Try.pinned (OpenSpec.upto allocTakesAndRaisesSpec)

/-- 'blinktreelaw5.AllocRaises', WHERE WHAT IT READS IS OF BULK AT MOST 1048576: true; the input reads as it did. -/
def allocRaisesUptoRow : OpenClaim := { program := "ytfoojallpmibfaa", sum := "e9ccc80a86f5ab3147318f8fa7f265fc51e84af992037ad2e729fe13667aa678", func := "blinktree/blinktreelaw5.AllocRaises", spec := "allocRaises", unfollowed := true, recurses := true, apart := false, narrowed := true }
def AllocRaisesUptoSaid : Prop := allocRaisesUptoRow.holds Try.pinned (OpenSpec.upto allocRaisesSpec)

/-- 'blinktreelaw6.ClockPublishes', WHERE WHAT IT READS IS OF BULK AT MOST 1048576: true; the input reads as it did. -/
def clockPublishesUptoRow : OpenClaim := { program := "ytfoojallpmibfaa", sum := "e9ccc80a86f5ab3147318f8fa7f265fc51e84af992037ad2e729fe13667aa678", func := "blinktree/blinktreelaw6.ClockPublishes", spec := "clockPublishes", unfollowed := true, recurses := true, apart := false, narrowed := true }
def ClockPublishesUptoSaid : Prop := clockPublishesUptoRow.holds Try.pinned (OpenSpec.upto clockPublishesSpec)

/-- 'blinktreelaw6.ClockNow', WHERE WHAT IT READS IS OF BULK AT MOST 1048576: true; the input reads as it did. -/
def clockNowUptoRow : OpenClaim := { program := "ytfoojallpmibfaa", sum := "e9ccc80a86f5ab3147318f8fa7f265fc51e84af992037ad2e729fe13667aa678", func := "blinktree/blinktreelaw6.ClockNow", spec := "clockNow", unfollowed := true, recurses := true, apart := false, narrowed := true }
def ClockNowUptoSaid : Prop := clockNowUptoRow.holds Try.pinned (OpenSpec.upto clockNowSpec)

/-- 'blinktreelaw6.ClockWaits', WHERE WHAT IT READS IS OF BULK AT MOST 1048576: true; the input reads as it did. -/
def clockWaitsUptoRow : OpenClaim := { program := "ytfoojallpmibfaa", sum := "e9ccc80a86f5ab3147318f8fa7f265fc51e84af992037ad2e729fe13667aa678", func := "blinktree/blinktreelaw6.ClockWaits", spec := "clockWaits", unfollowed := true, recurses := true, apart := false, narrowed := true }
def ClockWaitsUptoSaid : Prop := clockWaitsUptoRow.holds Try.pinned (OpenSpec.upto clockWaitsSpec)

end Rows
end Go.Proofs.Ytfoojallpmibfaa
