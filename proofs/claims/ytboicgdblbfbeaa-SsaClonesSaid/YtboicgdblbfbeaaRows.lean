/-
  No cell of these rows narrows 'for every input' (looked for: loops, veiled, ifaces, maps, wideKeys, modest, calm, conditions, laid).
  DERIVED. THE GIVEN ROWS OF THIS SEAT. 3 by the template 'for every input the law returns true; each argument reads behind the call as it read before'; 0 by the template 'total and deterministic' (their statements: YtboicgdblbfbeaaTotals.lean).
  GIVEN WITH THE SEED: the statements are not yours to turn. If you find one false, say at which input.
  Laid BY PROGRAM, IN A SANDBOX (cutbox-rows.mjs): the forced cells as the released guide's own fill.sh prints them over the translation 8ec42da1d782e94d… (all of the seat's roots in one cut). By AI agents, Wed Nov 11 2026. No macro, syntax, notation, axiom, sorry.
-/
import Derived.Test.YtboicgdblbfbeaaChecked
import GoSem.Claim
import GoSem.ClaimJoined
import GoSem.ClaimMapViews
import Derived.JoinedTies
import Derived.KernelRfl
namespace Go.Proofs.Ytboicgdblbfbeaa
/- THE CELL 'sum', in the pinned program and in every row, IS THE sha256 OF THE DUMP (.gsa) THAT YtboicgdblbfbeaaProg.lean LOADS. Nothing in Lean hashes anything: it is a label: what it is worth is what the hold of that sum in a sandbox is worth. -/
noncomputable def Try.pinned : Pinned := { name := "ytboicgdblbfbeaa", sum := "8ec42da1d782e94db54ed34e51ae0471641c54f13325f295e3f59ba4074b5fb3", checked := Try.checked }
namespace Rows
def none {H : Type} : Left H := { results := [], args := [] }

/-- 'palingslaw07.SsaParts': WHATEVER THE INPUT: true; the input reads as it did. -/
def ssaPartsSpec : ChangeSpec := { name := "ssaParts", fn := fun _ => fun
  | [d] => { results := [.lit (.bool true)], args := [d] }
  | _ => none }
def ssaPartsRow : OpenClaim := { program := "ytboicgdblbfbeaa", sum := "8ec42da1d782e94db54ed34e51ae0471641c54f13325f295e3f59ba4074b5fb3", func := "palings/palingslaw07.SsaParts", spec := "ssaParts", unfollowed := true, recurses := true, apart := false }
def SsaPartsSaid : Prop := ssaPartsRow.holds Try.pinned (OpenSpec.ofChange ssaPartsSpec)

/-- ITS FALSE NEIGHBOUR: 'it returns false'. Refute it at one input. -/
def ssaPartsWrong : ChangeSpec := { name := "ssaParts", fn := fun _ => fun
  | [d] => { results := [.lit (.bool false)], args := [d] }
  | _ => none }
def SsaPartsWrongFalsely : Prop := ssaPartsRow.holds Try.pinned (OpenSpec.ofChange ssaPartsWrong)

/-- 'palingslaw07.SsaWays': WHATEVER THE INPUT: true; the input reads as it did. -/
def ssaWaysSpec : ChangeSpec := { name := "ssaWays", fn := fun _ => fun
  | [d1, d2, d3] => { results := [.lit (.bool true)], args := [d1, d2, d3] }
  | _ => none }
def ssaWaysRow : OpenClaim := { program := "ytboicgdblbfbeaa", sum := "8ec42da1d782e94db54ed34e51ae0471641c54f13325f295e3f59ba4074b5fb3", func := "palings/palingslaw07.SsaWays", spec := "ssaWays", unfollowed := true, recurses := true, apart := false }
def SsaWaysSaid : Prop := ssaWaysRow.holds Try.pinned (OpenSpec.ofChange ssaWaysSpec)

/-- ITS FALSE NEIGHBOUR: 'it returns false'. Refute it at one input. -/
def ssaWaysWrong : ChangeSpec := { name := "ssaWays", fn := fun _ => fun
  | [d1, d2, d3] => { results := [.lit (.bool false)], args := [d1, d2, d3] }
  | _ => none }
def SsaWaysWrongFalsely : Prop := ssaWaysRow.holds Try.pinned (OpenSpec.ofChange ssaWaysWrong)

/-- 'palingslaw07.SsaClones': WHATEVER THE INPUT: true; the input reads as it did. -/
def ssaClonesSpec : ChangeSpec := { name := "ssaClones", fn := fun _ => fun
  | [d] => { results := [.lit (.bool true)], args := [d] }
  | _ => none }
def ssaClonesRow : OpenClaim := { program := "ytboicgdblbfbeaa", sum := "8ec42da1d782e94db54ed34e51ae0471641c54f13325f295e3f59ba4074b5fb3", func := "palings/palingslaw07.SsaClones", spec := "ssaClones", unfollowed := true, recurses := true, apart := false }
def SsaClonesSaid : Prop := ssaClonesRow.holds Try.pinned (OpenSpec.ofChange ssaClonesSpec)

/-- ITS FALSE NEIGHBOUR: 'it returns false'. Refute it at one input. -/
def ssaClonesWrong : ChangeSpec := { name := "ssaClones", fn := fun _ => fun
  | [d] => { results := [.lit (.bool false)], args := [d] }
  | _ => none }
def SsaClonesWrongFalsely : Prop := ssaClonesRow.holds Try.pinned (OpenSpec.ofChange ssaClonesWrong)

/- THE SECOND FORM. 'bulk': how many values and letters a reading holds, each counted each time it is reached (what is shared counts as often as it is met; a slice's spare places count too). A statement '..UptoSaid' is the law's where the arguments, and the package variables that the reading takes, are together of bulk at most 1048576: NARROWER than '..Said'. Prove '..Said' where nothing that the law and all that it calls make is longer than what came in: it says more and counts as full. Else prove '..UptoSaid'. A law counts once. -/
mutual
def uptoBulk {H : Type} : DataW H → Nat
  | .lit (.string bytes) => bytes.length + 1
  | .lit _ => 1
  | .nil => 1
  | .ptr d => uptoBulk d + 1
  | .slice elems spare => uptoBulkAll elems + uptoBulkAll spare + 1
  | .agg parts => uptoBulkAll parts + 1
  | .iface _ d => uptoBulk d + 1
  | .map entries => uptoBulkEntries entries + 1
  | .held _ => 1
def uptoBulkAll {H : Type} : List (DataW H) → Nat
  | [] => 0
  | d :: r => uptoBulk d + uptoBulkAll r
def uptoBulkEntries {H : Type} : List (Lit × DataW H) → Nat
  | [] => 0
  | x :: r => uptoBulkEntry x + uptoBulkEntries r
def uptoBulkEntry {H : Type} : Lit × DataW H → Nat
  | (.string bytes, d) => bytes.length + uptoBulk d + 1
  | (_, d) => uptoBulk d + 1
 end
def uptoSmall : (H : Type) → List (DataW H) → Bool := fun _ ds => decide (uptoBulkAll ds ≤ 1048576)
def OpenSpec.upto (s : _root_.Go.ChangeSpec) : _root_.Go.OpenSpec := { _root_.Go.OpenSpec.ofChange s with cond := some uptoSmall }

/-- 'palingslaw07.SsaParts', WHERE WHAT IT READS IS OF BULK AT MOST 1048576: true; the input reads as it did. -/
def ssaPartsUptoRow : OpenClaim := { program := "ytboicgdblbfbeaa", sum := "8ec42da1d782e94db54ed34e51ae0471641c54f13325f295e3f59ba4074b5fb3", func := "palings/palingslaw07.SsaParts", spec := "ssaParts", unfollowed := true, recurses := true, apart := false, narrowed := true }
def SsaPartsUptoSaid : Prop := ssaPartsUptoRow.holds Try.pinned (OpenSpec.upto ssaPartsSpec)

/-- 'palingslaw07.SsaWays', WHERE WHAT IT READS IS OF BULK AT MOST 1048576: true; the input reads as it did. -/
def ssaWaysUptoRow : OpenClaim := { program := "ytboicgdblbfbeaa", sum := "8ec42da1d782e94db54ed34e51ae0471641c54f13325f295e3f59ba4074b5fb3", func := "palings/palingslaw07.SsaWays", spec := "ssaWays", unfollowed := true, recurses := true, apart := false, narrowed := true }
def SsaWaysUptoSaid : Prop := ssaWaysUptoRow.holds Try.pinned (OpenSpec.upto ssaWaysSpec)

/-- 'palingslaw07.SsaClones', WHERE WHAT IT READS IS OF BULK AT MOST 1048576: true; the input reads as it did. -/
def ssaClonesUptoRow : OpenClaim := { program := "ytboicgdblbfbeaa", sum := "8ec42da1d782e94db54ed34e51ae0471641c54f13325f295e3f59ba4074b5fb3", func := "palings/palingslaw07.SsaClones", spec := "ssaClones", unfollowed := true, recurses := true, apart := false, narrowed := true }
def SsaClonesUptoSaid : Prop := ssaClonesUptoRow.holds Try.pinned (OpenSpec.upto ssaClonesSpec)

end Rows
end Go.Proofs.Ytboicgdblbfbeaa
