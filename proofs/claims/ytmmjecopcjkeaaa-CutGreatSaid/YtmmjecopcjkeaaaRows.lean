/-
  No cell of these rows narrows 'for every input' (looked for: loops, veiled, ifaces, maps, wideKeys, modest, calm, conditions, laid).
  DERIVED. THE GIVEN ROWS OF THIS SEAT. 5 by the template 'for every input the law returns true; each argument reads behind the call as it read before'; 0 by the template 'total and deterministic' (their statements: YtmmjecopcjkeaaaTotals.lean).
  GIVEN WITH THE SEED: the statements are not yours to turn. If you find one false, say at which input.
  Laid BY PROGRAM, IN A SANDBOX (cutbox-rows.mjs): the forced cells as the released guide's own fill.sh prints them over the translation d084122fae21a0d7… (all of the seat's roots in one cut). By AI agents, Wed Nov 11 2026. No macro, syntax, notation, axiom, sorry.
-/
import Derived.Test.YtmmjecopcjkeaaaChecked
import GoSem.Claim
import GoSem.ClaimJoined
import GoSem.ClaimMapViews
import Derived.JoinedTies
import Derived.KernelRfl
namespace Go.Proofs.Ytmmjecopcjkeaaa
/- THE CELL 'sum', in the pinned program and in every row, IS THE sha256 OF THE DUMP (.gsa) THAT YtmmjecopcjkeaaaProg.lean LOADS. Nothing in Lean hashes anything: it is a label: what it is worth is what the hold of that sum in a sandbox is worth. -/
noncomputable def Try.pinned : Pinned := { name := "ytmmjecopcjkeaaa", sum := "d084122fae21a0d779e5a19b3e98d8cb9c08cc59f89e1e6af3c93a2ad4ff2567", checked := Try.checked }
namespace Rows
def none {H : Type} : Left H := { results := [], args := [] }

/-- 'palingslaw13.CutNone': WHATEVER THE INPUT: true; the input reads as it did. -/
def cutNoneSpec : ChangeSpec := { name := "cutNone", fn := fun _ => fun
  | [d] => { results := [.lit (.bool true)], args := [d] }
  | _ => none }
def cutNoneRow : OpenClaim := { program := "ytmmjecopcjkeaaa", sum := "d084122fae21a0d779e5a19b3e98d8cb9c08cc59f89e1e6af3c93a2ad4ff2567", func := "palings/palingslaw13.CutNone", spec := "cutNone", unfollowed := true, recurses := true, apart := false }
def CutNoneSaid : Prop := cutNoneRow.holds Try.pinned (OpenSpec.ofChange cutNoneSpec)

/-- ITS FALSE NEIGHBOUR: 'it returns false'. Refute it at one input. -/
def cutNoneWrong : ChangeSpec := { name := "cutNone", fn := fun _ => fun
  | [d] => { results := [.lit (.bool false)], args := [d] }
  | _ => none }
def CutNoneWrongFalsely : Prop := cutNoneRow.holds Try.pinned (OpenSpec.ofChange cutNoneWrong)

/-- 'palingslaw13.CutLeast': WHATEVER THE INPUT: true; the input reads as it did. -/
def cutLeastSpec : ChangeSpec := { name := "cutLeast", fn := fun _ => fun
  | [d] => { results := [.lit (.bool true)], args := [d] }
  | _ => none }
def cutLeastRow : OpenClaim := { program := "ytmmjecopcjkeaaa", sum := "d084122fae21a0d779e5a19b3e98d8cb9c08cc59f89e1e6af3c93a2ad4ff2567", func := "palings/palingslaw13.CutLeast", spec := "cutLeast", unfollowed := true, recurses := true, apart := false }
def CutLeastSaid : Prop := cutLeastRow.holds Try.pinned (OpenSpec.ofChange cutLeastSpec)

/-- ITS FALSE NEIGHBOUR: 'it returns false'. Refute it at one input. -/
def cutLeastWrong : ChangeSpec := { name := "cutLeast", fn := fun _ => fun
  | [d] => { results := [.lit (.bool false)], args := [d] }
  | _ => none }
def CutLeastWrongFalsely : Prop := cutLeastRow.holds Try.pinned (OpenSpec.ofChange cutLeastWrong)

/-- 'palingslaw13.CutCuts': WHATEVER THE INPUT: true; the input reads as it did. -/
def cutCutsSpec : ChangeSpec := { name := "cutCuts", fn := fun _ => fun
  | [d1, d2] => { results := [.lit (.bool true)], args := [d1, d2] }
  | _ => none }
def cutCutsRow : OpenClaim := { program := "ytmmjecopcjkeaaa", sum := "d084122fae21a0d779e5a19b3e98d8cb9c08cc59f89e1e6af3c93a2ad4ff2567", func := "palings/palingslaw13.CutCuts", spec := "cutCuts", unfollowed := true, recurses := true, apart := false }
def CutCutsSaid : Prop := cutCutsRow.holds Try.pinned (OpenSpec.ofChange cutCutsSpec)

/-- ITS FALSE NEIGHBOUR: 'it returns false'. Refute it at one input. -/
def cutCutsWrong : ChangeSpec := { name := "cutCuts", fn := fun _ => fun
  | [d1, d2] => { results := [.lit (.bool false)], args := [d1, d2] }
  | _ => none }
def CutCutsWrongFalsely : Prop := cutCutsRow.holds Try.pinned (OpenSpec.ofChange cutCutsWrong)

/-- 'palingslaw13.CutGreat': WHATEVER THE INPUT: true; the input reads as it did. -/
def cutGreatSpec : ChangeSpec := { name := "cutGreat", fn := fun _ => fun
  | [d1, d2, d3] => { results := [.lit (.bool true)], args := [d1, d2, d3] }
  | _ => none }
def cutGreatRow : OpenClaim := { program := "ytmmjecopcjkeaaa", sum := "d084122fae21a0d779e5a19b3e98d8cb9c08cc59f89e1e6af3c93a2ad4ff2567", func := "palings/palingslaw13.CutGreat", spec := "cutGreat", unfollowed := true, recurses := true, apart := false }
def CutGreatSaid : Prop := cutGreatRow.holds Try.pinned (OpenSpec.ofChange cutGreatSpec)

/-- ITS FALSE NEIGHBOUR: 'it returns false'. Refute it at one input. -/
def cutGreatWrong : ChangeSpec := { name := "cutGreat", fn := fun _ => fun
  | [d1, d2, d3] => { results := [.lit (.bool false)], args := [d1, d2, d3] }
  | _ => none }
def CutGreatWrongFalsely : Prop := cutGreatRow.holds Try.pinned (OpenSpec.ofChange cutGreatWrong)

/-- 'palingslaw13.CutMore': WHATEVER THE INPUT: true; the input reads as it did. -/
def cutMoreSpec : ChangeSpec := { name := "cutMore", fn := fun _ => fun
  | [d1, d2, d3] => { results := [.lit (.bool true)], args := [d1, d2, d3] }
  | _ => none }
def cutMoreRow : OpenClaim := { program := "ytmmjecopcjkeaaa", sum := "d084122fae21a0d779e5a19b3e98d8cb9c08cc59f89e1e6af3c93a2ad4ff2567", func := "palings/palingslaw13.CutMore", spec := "cutMore", unfollowed := true, recurses := true, apart := false }
def CutMoreSaid : Prop := cutMoreRow.holds Try.pinned (OpenSpec.ofChange cutMoreSpec)

/-- ITS FALSE NEIGHBOUR: 'it returns false'. Refute it at one input. -/
def cutMoreWrong : ChangeSpec := { name := "cutMore", fn := fun _ => fun
  | [d1, d2, d3] => { results := [.lit (.bool false)], args := [d1, d2, d3] }
  | _ => none }
def CutMoreWrongFalsely : Prop := cutMoreRow.holds Try.pinned (OpenSpec.ofChange cutMoreWrong)

/- THE SECOND FORM. 'bulk': how many values and letters a reading holds, each counted each time it is reached (what is shared counts as often as it is met; a slice's spare places count too). A statement '..UptoSaid' is the law's where the arguments, and the package variables that the reading takes, are together of bulk at most 1048576: NARROWER than '..Said'. Prove '..Said' where nothing that the law and all that it calls make is longer than what came in: it says more and counts as full. Else prove '..UptoSaid'. A law counts once. -/
mutual
def uptoBulk {H : Type} : DataW H → Nat
  | .lit (.string bytes) => bytes.length + 1
  | .lit _ => 1
  | .nil => 1
  | .ptr d => uptoBulk d + 1
  | .slice elems spare => uptoBulkAll elems + uptoBulkAll spare + 1
  | .agg parts => uptoBulkAll parts + 1
  | .iface _ d => uptoBulk d + 1
  | .map entries => uptoBulkEntries entries + 1
  | .held _ => 1
def uptoBulkAll {H : Type} : List (DataW H) → Nat
  | [] => 0
  | d :: r => uptoBulk d + uptoBulkAll r
def uptoBulkEntries {H : Type} : List (Lit × DataW H) → Nat
  | [] => 0
  | x :: r => uptoBulkEntry x + uptoBulkEntries r
def uptoBulkEntry {H : Type} : Lit × DataW H → Nat
  | (.string bytes, d) => bytes.length + uptoBulk d + 1
  | (_, d) => uptoBulk d + 1
 end
def uptoSmall : (H : Type) → List (DataW H) → Bool := fun _ ds => decide (uptoBulkAll ds ≤ 1048576)
def OpenSpec.upto (s : _root_.Go.ChangeSpec) : _root_.Go.OpenSpec := { _root_.Go.OpenSpec.ofChange s with cond := some uptoSmall }

/-- 'palingslaw13.CutNone', WHERE WHAT IT READS IS OF BULK AT MOST 1048576: true; the input reads as it did. -/
def cutNoneUptoRow : OpenClaim := { program := "ytmmjecopcjkeaaa", sum := "d084122fae21a0d779e5a19b3e98d8cb9c08cc59f89e1e6af3c93a2ad4ff2567", func := "palings/palingslaw13.CutNone", spec := "cutNone", unfollowed := true, recurses := true, apart := false, narrowed := true }
def CutNoneUptoSaid : Prop := cutNoneUptoRow.holds Try.pinned (OpenSpec.upto cutNoneSpec)

/-- 'palingslaw13.CutLeast', WHERE WHAT IT READS IS OF BULK AT MOST 1048576: true; the input reads as it did. -/
def cutLeastUptoRow : OpenClaim := { program := "ytmmjecopcjkeaaa", sum := "d084122fae21a0d779e5a19b3e98d8cb9c08cc59f89e1e6af3c93a2ad4ff2567", func := "palings/palingslaw13.CutLeast", spec := "cutLeast", unfollowed := true, recurses := true, apart := false, narrowed := true }
def CutLeastUptoSaid : Prop := cutLeastUptoRow.holds Try.pinned (OpenSpec.upto cutLeastSpec)

/-- 'palingslaw13.CutCuts', WHERE WHAT IT READS IS OF BULK AT MOST 1048576: true; the input reads as it did. -/
def cutCutsUptoRow : OpenClaim := { program := "ytmmjecopcjkeaaa", sum := "d084122fae21a0d779e5a19b3e98d8cb9c08cc59f89e1e6af3c93a2ad4ff2567", func := "palings/palingslaw13.CutCuts", spec := "cutCuts", unfollowed := true, recurses := true, apart := false, narrowed := true }
def CutCutsUptoSaid : Prop := cutCutsUptoRow.holds Try.pinned (OpenSpec.upto cutCutsSpec)

/-- 'palingslaw13.CutGreat', WHERE WHAT IT READS IS OF BULK AT MOST 1048576: true; the input reads as it did. -/
def cutGreatUptoRow : OpenClaim := { program := "ytmmjecopcjkeaaa", sum := "d084122fae21a0d779e5a19b3e98d8cb9c08cc59f89e1e6af3c93a2ad4ff2567", func := "palings/palingslaw13.CutGreat", spec := "cutGreat", unfollowed := true, recurses := true, apart := false, narrowed := true }
def CutGreatUptoSaid : Prop := cutGreatUptoRow.holds Try.pinned (OpenSpec.upto cutGreatSpec)

/-- 'palingslaw13.CutMore', WHERE WHAT IT READS IS OF BULK AT MOST 1048576: true; the input reads as it did. -/
def cutMoreUptoRow : OpenClaim := { program := "ytmmjecopcjkeaaa", sum := "d084122fae21a0d779e5a19b3e98d8cb9c08cc59f89e1e6af3c93a2ad4ff2567", func := "palings/palingslaw13.CutMore", spec := "cutMore", unfollowed := true, recurses := true, apart := false, narrowed := true }
def CutMoreUptoSaid : Prop := cutMoreUptoRow.holds Try.pinned (OpenSpec.upto cutMoreSpec)

end Rows
end Go.Proofs.Ytmmjecopcjkeaaa
