/-
  NARROWER THAN 'FOR EVERY INPUT', by the rows' own cells (each row's printed sentence says how): MoveLines: maps.
  DERIVED. THE GIVEN ROWS OF THIS SEAT. 3 by the template 'for every input the law returns true; each argument reads behind the call as it read before'; 0 by the template 'total and deterministic' (their statements: YtlpbghnphplclaaTotals.lean).
  GIVEN WITH THE SEED: the statements are not yours to turn. If you find one false, say at which input.
  Laid BY PROGRAM, IN A SANDBOX (cutbox-rows.mjs): the forced cells as the released guide's own fill.sh prints them over the translation 80d761734ceda171… (all of the seat's roots in one cut). By AI agents, Wed Nov 11 2026. No macro, syntax, notation, axiom, sorry.
-/
import Derived.Test.YtlpbghnphplclaaChecked
import GoSem.Claim
import GoSem.ClaimJoined
import GoSem.ClaimMapViews
import Derived.JoinedTies
import Derived.KernelRfl
namespace Go.Proofs.Ytlpbghnphplclaa
/- THE CELL 'sum', in the pinned program and in every row, IS THE sha256 OF THE DUMP (.gsa) THAT YtlpbghnphplclaaProg.lean LOADS. Nothing in Lean hashes anything: it is a label: what it is worth is what the hold of that sum in a sandbox is worth. -/
noncomputable def Try.pinned : Pinned := { name := "ytlpbghnphplclaa", sum := "80d761734ceda171034c3cacb7835f877fd8efa15c4374ea311b622adb1e1e48", checked := Try.checked }
namespace Rows
def none {H : Type} : Left H := { results := [], args := [] }

/-- 'palingslaw16.MoveLines': WHATEVER THE INPUT: true; the input reads as it did. -/
def moveLinesSpec : ChangeSpec := { name := "moveLines", fn := fun _ => fun
  | [d1, d2, d3] => { results := [.lit (.bool true)], args := [d1, d2, d3] }
  | _ => none }
def moveLinesRow : OpenClaim := { program := "ytlpbghnphplclaa", sum := "80d761734ceda171034c3cacb7835f877fd8efa15c4374ea311b622adb1e1e48", func := "palings/palingslaw16.MoveLines", spec := "moveLines", unfollowed := true, recurses := true, maps := true, apart := false }
def MoveLinesSaid : Prop := moveLinesRow.holds Try.pinned (OpenSpec.ofChange moveLinesSpec)

/-- ITS FALSE NEIGHBOUR: 'it returns false'. Refute it at one input. -/
def moveLinesWrong : ChangeSpec := { name := "moveLines", fn := fun _ => fun
  | [d1, d2, d3] => { results := [.lit (.bool false)], args := [d1, d2, d3] }
  | _ => none }
def MoveLinesWrongFalsely : Prop := moveLinesRow.holds Try.pinned (OpenSpec.ofChange moveLinesWrong)

/-- 'palingslaw16.MoveFew': WHATEVER THE INPUT: true; the input reads as it did. -/
def moveFewSpec : ChangeSpec := { name := "moveFew", fn := fun _ => fun
  | [d1, d2] => { results := [.lit (.bool true)], args := [d1, d2] }
  | _ => none }
def moveFewRow : OpenClaim := { program := "ytlpbghnphplclaa", sum := "80d761734ceda171034c3cacb7835f877fd8efa15c4374ea311b622adb1e1e48", func := "palings/palingslaw16.MoveFew", spec := "moveFew", unfollowed := true, recurses := true, apart := false }
def MoveFewSaid : Prop := moveFewRow.holds Try.pinned (OpenSpec.ofChange moveFewSpec)

/-- ITS FALSE NEIGHBOUR: 'it returns false'. Refute it at one input. -/
def moveFewWrong : ChangeSpec := { name := "moveFew", fn := fun _ => fun
  | [d1, d2] => { results := [.lit (.bool false)], args := [d1, d2] }
  | _ => none }
def MoveFewWrongFalsely : Prop := moveFewRow.holds Try.pinned (OpenSpec.ofChange moveFewWrong)

/-- 'palingslaw16.MoveRings': WHATEVER THE INPUT: true; the input reads as it did. -/
def moveRingsSpec : ChangeSpec := { name := "moveRings", fn := fun _ => fun
  | [d1, d2] => { results := [.lit (.bool true)], args := [d1, d2] }
  | _ => none }
def moveRingsRow : OpenClaim := { program := "ytlpbghnphplclaa", sum := "80d761734ceda171034c3cacb7835f877fd8efa15c4374ea311b622adb1e1e48", func := "palings/palingslaw16.MoveRings", spec := "moveRings", unfollowed := true, recurses := true, apart := false }
def MoveRingsSaid : Prop := moveRingsRow.holds Try.pinned (OpenSpec.ofChange moveRingsSpec)

/-- ITS FALSE NEIGHBOUR: 'it returns false'. Refute it at one input. -/
def moveRingsWrong : ChangeSpec := { name := "moveRings", fn := fun _ => fun
  | [d1, d2] => { results := [.lit (.bool false)], args := [d1, d2] }
  | _ => none }
def MoveRingsWrongFalsely : Prop := moveRingsRow.holds Try.pinned (OpenSpec.ofChange moveRingsWrong)

/- THE SECOND FORM. 'bulk': how many values and letters a reading holds, each counted each time it is reached (what is shared counts as often as it is met; a slice's spare places count too). A statement '..UptoSaid' is the law's where the arguments, and the package variables that the reading takes, are together of bulk at most 1048576: NARROWER than '..Said'. Prove '..Said' where nothing that the law and all that it calls make is longer than what came in: it says more and counts as full. Else prove '..UptoSaid'. A law counts once. -/
mutual
def uptoBulk {H : Type} : DataW H → Nat
  | .lit (.string bytes) => bytes.length + 1
  | .lit _ => 1
  | .nil => 1
  | .ptr d => uptoBulk d + 1
  | .slice elems spare => uptoBulkAll elems + uptoBulkAll spare + 1
  | .agg parts => uptoBulkAll parts + 1
  | .iface _ d => uptoBulk d + 1
  | .map entries => uptoBulkEntries entries + 1
  | .held _ => 1
def uptoBulkAll {H : Type} : List (DataW H) → Nat
  | [] => 0
  | d :: r => uptoBulk d + uptoBulkAll r
def uptoBulkEntries {H : Type} : List (Lit × DataW H) → Nat
  | [] => 0
  | x :: r => uptoBulkEntry x + uptoBulkEntries r
def uptoBulkEntry {H : Type} : Lit × DataW H → Nat
  | (.string bytes, d) => bytes.length + uptoBulk d + 1
  | (_, d) => uptoBulk d + 1
 end
def uptoSmall : (H : Type) → List (DataW H) → Bool := fun _ ds => decide (uptoBulkAll ds ≤ 1048576)
def OpenSpec.upto (s : _root_.Go.ChangeSpec) : _root_.Go.OpenSpec := { _root_.Go.OpenSpec.ofChange s with cond := some uptoSmall }

/-- 'palingslaw16.MoveLines', WHERE WHAT IT READS IS OF BULK AT MOST 1048576: true; the input reads as it did. -/
def moveLinesUptoRow : OpenClaim := { program := "ytlpbghnphplclaa", sum := "80d761734ceda171034c3cacb7835f877fd8efa15c4374ea311b622adb1e1e48", func := "palings/palingslaw16.MoveLines", spec := "moveLines", unfollowed := true, recurses := true, maps := true, apart := false, narrowed := true }
def MoveLinesUptoSaid : Prop := moveLinesUptoRow.holds Try.pinned (OpenSpec.upto moveLinesSpec)

/-- 'palingslaw16.MoveFew', WHERE WHAT IT READS IS OF BULK AT MOST 1048576: true; the input reads as it did. -/
def moveFewUptoRow : OpenClaim := { program := "ytlpbghnphplclaa", sum := "80d761734ceda171034c3cacb7835f877fd8efa15c4374ea311b622adb1e1e48", func := "palings/palingslaw16.MoveFew", spec := "moveFew", unfollowed := true, recurses := true, apart := false, narrowed := true }
def MoveFewUptoSaid : Prop := moveFewUptoRow.holds Try.pinned (OpenSpec.upto moveFewSpec)

/-- 'palingslaw16.MoveRings', WHERE WHAT IT READS IS OF BULK AT MOST 1048576: true; the input reads as it did. -/
def moveRingsUptoRow : OpenClaim := { program := "ytlpbghnphplclaa", sum := "80d761734ceda171034c3cacb7835f877fd8efa15c4374ea311b622adb1e1e48", func := "palings/palingslaw16.MoveRings", spec := "moveRings", unfollowed := true, recurses := true, apart := false, narrowed := true }
def MoveRingsUptoSaid : Prop := moveRingsUptoRow.holds Try.pinned (OpenSpec.upto moveRingsSpec)

end Rows
end Go.Proofs.Ytlpbghnphplclaa
