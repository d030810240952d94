/-
  No cell of these rows narrows 'for every input' (looked for: loops, veiled, ifaces, maps, wideKeys, modest, calm, conditions, laid).
  DERIVED. THE GIVEN ROWS OF THIS SEAT. 4 by the template 'for every input the law returns true; each argument reads behind the call as it read before'; 0 by the template 'total and deterministic' (their statements: YtoknjpmlloikhaaTotals.lean).
  GIVEN WITH THE SEED: the statements are not yours to turn. If you find one false, say at which input.
  Laid BY PROGRAM, IN A SANDBOX (cutbox-rows.mjs): the forced cells as the released guide's own fill.sh prints them over the translation 2e3e77748cf4cf46… (all of the seat's roots in one cut). By AI agents, Wed Nov 11 2026. No macro, syntax, notation, axiom, sorry.
-/
import Derived.Test.YtoknjpmlloikhaaChecked
import GoSem.Claim
import GoSem.ClaimJoined
import GoSem.ClaimMapViews
import Derived.JoinedTies
import Derived.KernelRfl
namespace Go.Proofs.Ytoknjpmlloikhaa
/- THE CELL 'sum', in the pinned program and in every row, IS THE sha256 OF THE DUMP (.gsa) THAT YtoknjpmlloikhaaProg.lean LOADS. Nothing in Lean hashes anything: it is a label: what it is worth is what the hold of that sum in a sandbox is worth. -/
noncomputable def Try.pinned : Pinned := { name := "ytoknjpmlloikhaa", sum := "2e3e77748cf4cf46154d01652a57362fadb9a9aaf1c073c4a2568061573093f7", checked := Try.checked }
namespace Rows
def none {H : Type} : Left H := { results := [], args := [] }

/-- 'palingslaw08.SimRuns': WHATEVER THE INPUT: true; the input reads as it did. -/
def simRunsSpec : ChangeSpec := { name := "simRuns", fn := fun _ => fun
  | [d1, d2, d3] => { results := [.lit (.bool true)], args := [d1, d2, d3] }
  | _ => none }
def simRunsRow : OpenClaim := { program := "ytoknjpmlloikhaa", sum := "2e3e77748cf4cf46154d01652a57362fadb9a9aaf1c073c4a2568061573093f7", func := "palings/palingslaw08.SimRuns", spec := "simRuns", unfollowed := true, recurses := true, apart := false }
def SimRunsSaid : Prop := simRunsRow.holds Try.pinned (OpenSpec.ofChange simRunsSpec)

/-- ITS FALSE NEIGHBOUR: 'it returns false'. Refute it at one input. -/
def simRunsWrong : ChangeSpec := { name := "simRuns", fn := fun _ => fun
  | [d1, d2, d3] => { results := [.lit (.bool false)], args := [d1, d2, d3] }
  | _ => none }
def SimRunsWrongFalsely : Prop := simRunsRow.holds Try.pinned (OpenSpec.ofChange simRunsWrong)

/-- 'palingslaw08.SimSwaps': WHATEVER THE INPUT: true; the input reads as it did. -/
def simSwapsSpec : ChangeSpec := { name := "simSwaps", fn := fun _ => fun
  | [d1, d2, d3] => { results := [.lit (.bool true)], args := [d1, d2, d3] }
  | _ => none }
def simSwapsRow : OpenClaim := { program := "ytoknjpmlloikhaa", sum := "2e3e77748cf4cf46154d01652a57362fadb9a9aaf1c073c4a2568061573093f7", func := "palings/palingslaw08.SimSwaps", spec := "simSwaps", unfollowed := true, recurses := true, apart := false }
def SimSwapsSaid : Prop := simSwapsRow.holds Try.pinned (OpenSpec.ofChange simSwapsSpec)

/-- ITS FALSE NEIGHBOUR: 'it returns false'. Refute it at one input. -/
def simSwapsWrong : ChangeSpec := { name := "simSwaps", fn := fun _ => fun
  | [d1, d2, d3] => { results := [.lit (.bool false)], args := [d1, d2, d3] }
  | _ => none }
def SimSwapsWrongFalsely : Prop := simSwapsRow.holds Try.pinned (OpenSpec.ofChange simSwapsWrong)

/-- 'palingslaw08.SimDeep': WHATEVER THE INPUT: true; the input reads as it did. -/
def simDeepSpec : ChangeSpec := { name := "simDeep", fn := fun _ => fun
  | [d] => { results := [.lit (.bool true)], args := [d] }
  | _ => none }
def simDeepRow : OpenClaim := { program := "ytoknjpmlloikhaa", sum := "2e3e77748cf4cf46154d01652a57362fadb9a9aaf1c073c4a2568061573093f7", func := "palings/palingslaw08.SimDeep", spec := "simDeep", unfollowed := true, recurses := true, apart := false }
def SimDeepSaid : Prop := simDeepRow.holds Try.pinned (OpenSpec.ofChange simDeepSpec)

/-- ITS FALSE NEIGHBOUR: 'it returns false'. Refute it at one input. -/
def simDeepWrong : ChangeSpec := { name := "simDeep", fn := fun _ => fun
  | [d] => { results := [.lit (.bool false)], args := [d] }
  | _ => none }
def SimDeepWrongFalsely : Prop := simDeepRow.holds Try.pinned (OpenSpec.ofChange simDeepWrong)

/-- 'palingslaw08.SimFuel': WHATEVER THE INPUT: true; the input reads as it did. -/
def simFuelSpec : ChangeSpec := { name := "simFuel", fn := fun _ => fun
  | [d1, d2, d3, d4] => { results := [.lit (.bool true)], args := [d1, d2, d3, d4] }
  | _ => none }
def simFuelRow : OpenClaim := { program := "ytoknjpmlloikhaa", sum := "2e3e77748cf4cf46154d01652a57362fadb9a9aaf1c073c4a2568061573093f7", func := "palings/palingslaw08.SimFuel", spec := "simFuel", unfollowed := true, recurses := true, apart := false }
def SimFuelSaid : Prop := simFuelRow.holds Try.pinned (OpenSpec.ofChange simFuelSpec)

/-- ITS FALSE NEIGHBOUR: 'it returns false'. Refute it at one input. -/
def simFuelWrong : ChangeSpec := { name := "simFuel", fn := fun _ => fun
  | [d1, d2, d3, d4] => { results := [.lit (.bool false)], args := [d1, d2, d3, d4] }
  | _ => none }
def SimFuelWrongFalsely : Prop := simFuelRow.holds Try.pinned (OpenSpec.ofChange simFuelWrong)

/- THE SECOND FORM. 'bulk': how many values and letters a reading holds, each counted each time it is reached (what is shared counts as often as it is met; a slice's spare places count too). A statement '..UptoSaid' is the law's where the arguments, and the package variables that the reading takes, are together of bulk at most 1048576: NARROWER than '..Said'. Prove '..Said' where nothing that the law and all that it calls make is longer than what came in: it says more and counts as full. Else prove '..UptoSaid'. A law counts once. -/
mutual
def uptoBulk {H : Type} : DataW H → Nat
  | .lit (.string bytes) => bytes.length + 1
  | .lit _ => 1
  | .nil => 1
  | .ptr d => uptoBulk d + 1
  | .slice elems spare => uptoBulkAll elems + uptoBulkAll spare + 1
  | .agg parts => uptoBulkAll parts + 1
  | .iface _ d => uptoBulk d + 1
  | .map entries => uptoBulkEntries entries + 1
  | .held _ => 1
def uptoBulkAll {H : Type} : List (DataW H) → Nat
  | [] => 0
  | d :: r => uptoBulk d + uptoBulkAll r
def uptoBulkEntries {H : Type} : List (Lit × DataW H) → Nat
  | [] => 0
  | x :: r => uptoBulkEntry x + uptoBulkEntries r
def uptoBulkEntry {H : Type} : Lit × DataW H → Nat
  | (.string bytes, d) => bytes.length + uptoBulk d + 1
  | (_, d) => uptoBulk d + 1
 end
def uptoSmall : (H : Type) → List (DataW H) → Bool := fun _ ds => decide (uptoBulkAll ds ≤ 1048576)
def OpenSpec.upto (s : _root_.Go.ChangeSpec) : _root_.Go.OpenSpec := { _root_.Go.OpenSpec.ofChange s with cond := some uptoSmall }

/-- 'palingslaw08.SimRuns', WHERE WHAT IT READS IS OF BULK AT MOST 1048576: true; the input reads as it did. -/
def simRunsUptoRow : OpenClaim := { program := "ytoknjpmlloikhaa", sum := "2e3e77748cf4cf46154d01652a57362fadb9a9aaf1c073c4a2568061573093f7", func := "palings/palingslaw08.SimRuns", spec := "simRuns", unfollowed := true, recurses := true, apart := false, narrowed := true }
def SimRunsUptoSaid : Prop := simRunsUptoRow.holds Try.pinned (OpenSpec.upto simRunsSpec)

/-- 'palingslaw08.SimSwaps', WHERE WHAT IT READS IS OF BULK AT MOST 1048576: true; the input reads as it did. -/
def simSwapsUptoRow : OpenClaim := { program := "ytoknjpmlloikhaa", sum := "2e3e77748cf4cf46154d01652a57362fadb9a9aaf1c073c4a2568061573093f7", func := "palings/palingslaw08.SimSwaps", spec := "simSwaps", unfollowed := true, recurses := true, apart := false, narrowed := true }
def SimSwapsUptoSaid : Prop := simSwapsUptoRow.holds Try.pinned (OpenSpec.upto simSwapsSpec)

/-- 'palingslaw08.SimDeep', WHERE WHAT IT READS IS OF BULK AT MOST 1048576: true; the input reads as it did. -/
def simDeepUptoRow : OpenClaim := { program := "ytoknjpmlloikhaa", sum := "2e3e77748cf4cf46154d01652a57362fadb9a9aaf1c073c4a2568061573093f7", func := "palings/palingslaw08.SimDeep", spec := "simDeep", unfollowed := true, recurses := true, apart := false, narrowed := true }
def SimDeepUptoSaid : Prop := simDeepUptoRow.holds Try.pinned (OpenSpec.upto simDeepSpec)

/-- 'palingslaw08.SimFuel', WHERE WHAT IT READS IS OF BULK AT MOST 1048576: true; the input reads as it did. -/
def simFuelUptoRow : OpenClaim := { program := "ytoknjpmlloikhaa", sum := "2e3e77748cf4cf46154d01652a57362fadb9a9aaf1c073c4a2568061573093f7", func := "palings/palingslaw08.SimFuel", spec := "simFuel", unfollowed := true, recurses := true, apart := false, narrowed := true }
def SimFuelUptoSaid : Prop := simFuelUptoRow.holds Try.pinned (OpenSpec.upto simFuelSpec)

end Rows
end Go.Proofs.Ytoknjpmlloikhaa
