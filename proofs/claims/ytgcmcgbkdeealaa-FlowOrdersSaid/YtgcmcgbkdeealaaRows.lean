/-
  No cell of these rows narrows 'for every input' (looked for: loops, veiled, ifaces, maps, wideKeys, modest, calm, conditions, laid).
  DERIVED. THE GIVEN ROWS OF THIS SEAT. 5 by the template 'for every input the law returns true; each argument reads behind the call as it read before'; 0 by the template 'total and deterministic' (their statements: YtgcmcgbkdeealaaTotals.lean).
  GIVEN WITH THE SEED: the statements are not yours to turn. If you find one false, say at which input.
  Laid BY PROGRAM, IN A SANDBOX (cutbox-rows.mjs): the forced cells as the released guide's own fill.sh prints them over the translation baf5a4ee0e083d67… (all of the seat's roots in one cut). By AI agents, Wed Nov 11 2026. No macro, syntax, notation, axiom, sorry.
-/
import Derived.Test.YtgcmcgbkdeealaaChecked
import GoSem.Claim
import GoSem.ClaimJoined
import GoSem.ClaimMapViews
import Derived.JoinedTies
import Derived.KernelRfl
namespace Go.Proofs.Ytgcmcgbkdeealaa
/- THE CELL 'sum', in the pinned program and in every row, IS THE sha256 OF THE DUMP (.gsa) THAT YtgcmcgbkdeealaaProg.lean LOADS. Nothing in Lean hashes anything: it is a label: what it is worth is what the hold of that sum in a sandbox is worth. -/
noncomputable def Try.pinned : Pinned := { name := "ytgcmcgbkdeealaa", sum := "baf5a4ee0e083d678522b386b0baa97e3a9aab23e0175466bcdfafcc3bb40820", checked := Try.checked }
namespace Rows
def none {H : Type} : Left H := { results := [], args := [] }

/-- 'palingslaw11.FlowDoms': WHATEVER THE INPUT: true; the input reads as it did. -/
def flowDomsSpec : ChangeSpec := { name := "flowDoms", fn := fun _ => fun
  | [d] => { results := [.lit (.bool true)], args := [d] }
  | _ => none }
def flowDomsRow : OpenClaim := { program := "ytgcmcgbkdeealaa", sum := "baf5a4ee0e083d678522b386b0baa97e3a9aab23e0175466bcdfafcc3bb40820", func := "palings/palingslaw11.FlowDoms", spec := "flowDoms", apart := false }
def FlowDomsSaid : Prop := flowDomsRow.holds Try.pinned (OpenSpec.ofChange flowDomsSpec)

/-- ITS FALSE NEIGHBOUR: 'it returns false'. Refute it at one input. -/
def flowDomsWrong : ChangeSpec := { name := "flowDoms", fn := fun _ => fun
  | [d] => { results := [.lit (.bool false)], args := [d] }
  | _ => none }
def FlowDomsWrongFalsely : Prop := flowDomsRow.holds Try.pinned (OpenSpec.ofChange flowDomsWrong)

/-- 'palingslaw11.FlowDepths': WHATEVER THE INPUT: true; the input reads as it did. -/
def flowDepthsSpec : ChangeSpec := { name := "flowDepths", fn := fun _ => fun
  | [d] => { results := [.lit (.bool true)], args := [d] }
  | _ => none }
def flowDepthsRow : OpenClaim := { program := "ytgcmcgbkdeealaa", sum := "baf5a4ee0e083d678522b386b0baa97e3a9aab23e0175466bcdfafcc3bb40820", func := "palings/palingslaw11.FlowDepths", spec := "flowDepths", apart := false }
def FlowDepthsSaid : Prop := flowDepthsRow.holds Try.pinned (OpenSpec.ofChange flowDepthsSpec)

/-- ITS FALSE NEIGHBOUR: 'it returns false'. Refute it at one input. -/
def flowDepthsWrong : ChangeSpec := { name := "flowDepths", fn := fun _ => fun
  | [d] => { results := [.lit (.bool false)], args := [d] }
  | _ => none }
def FlowDepthsWrongFalsely : Prop := flowDepthsRow.holds Try.pinned (OpenSpec.ofChange flowDepthsWrong)

/-- 'palingslaw11.FlowTree': WHATEVER THE INPUT: true; the input reads as it did. -/
def flowTreeSpec : ChangeSpec := { name := "flowTree", fn := fun _ => fun
  | [d] => { results := [.lit (.bool true)], args := [d] }
  | _ => none }
def flowTreeRow : OpenClaim := { program := "ytgcmcgbkdeealaa", sum := "baf5a4ee0e083d678522b386b0baa97e3a9aab23e0175466bcdfafcc3bb40820", func := "palings/palingslaw11.FlowTree", spec := "flowTree", apart := false }
def FlowTreeSaid : Prop := flowTreeRow.holds Try.pinned (OpenSpec.ofChange flowTreeSpec)

/-- ITS FALSE NEIGHBOUR: 'it returns false'. Refute it at one input. -/
def flowTreeWrong : ChangeSpec := { name := "flowTree", fn := fun _ => fun
  | [d] => { results := [.lit (.bool false)], args := [d] }
  | _ => none }
def FlowTreeWrongFalsely : Prop := flowTreeRow.holds Try.pinned (OpenSpec.ofChange flowTreeWrong)

/-- 'palingslaw11.FlowLine': WHATEVER THE INPUT: true; the input reads as it did. -/
def flowLineSpec : ChangeSpec := { name := "flowLine", fn := fun _ => fun
  | [d] => { results := [.lit (.bool true)], args := [d] }
  | _ => none }
def flowLineRow : OpenClaim := { program := "ytgcmcgbkdeealaa", sum := "baf5a4ee0e083d678522b386b0baa97e3a9aab23e0175466bcdfafcc3bb40820", func := "palings/palingslaw11.FlowLine", spec := "flowLine", apart := false }
def FlowLineSaid : Prop := flowLineRow.holds Try.pinned (OpenSpec.ofChange flowLineSpec)

/-- ITS FALSE NEIGHBOUR: 'it returns false'. Refute it at one input. -/
def flowLineWrong : ChangeSpec := { name := "flowLine", fn := fun _ => fun
  | [d] => { results := [.lit (.bool false)], args := [d] }
  | _ => none }
def FlowLineWrongFalsely : Prop := flowLineRow.holds Try.pinned (OpenSpec.ofChange flowLineWrong)

/-- 'palingslaw11.FlowOrders': WHATEVER THE INPUT: true; the input reads as it did. -/
def flowOrdersSpec : ChangeSpec := { name := "flowOrders", fn := fun _ => fun
  | [d] => { results := [.lit (.bool true)], args := [d] }
  | _ => none }
def flowOrdersRow : OpenClaim := { program := "ytgcmcgbkdeealaa", sum := "baf5a4ee0e083d678522b386b0baa97e3a9aab23e0175466bcdfafcc3bb40820", func := "palings/palingslaw11.FlowOrders", spec := "flowOrders", recurses := true, apart := false }
def FlowOrdersSaid : Prop := flowOrdersRow.holds Try.pinned (OpenSpec.ofChange flowOrdersSpec)

/-- ITS FALSE NEIGHBOUR: 'it returns false'. Refute it at one input. -/
def flowOrdersWrong : ChangeSpec := { name := "flowOrders", fn := fun _ => fun
  | [d] => { results := [.lit (.bool false)], args := [d] }
  | _ => none }
def FlowOrdersWrongFalsely : Prop := flowOrdersRow.holds Try.pinned (OpenSpec.ofChange flowOrdersWrong)

/- THE SECOND FORM. 'bulk': how many values and letters a reading holds, each counted each time it is reached (what is shared counts as often as it is met; a slice's spare places count too). A statement '..UptoSaid' is the law's where the arguments, and the package variables that the reading takes, are together of bulk at most 1048576: NARROWER than '..Said'. Prove '..Said' where nothing that the law and all that it calls make is longer than what came in: it says more and counts as full. Else prove '..UptoSaid'. A law counts once. -/
mutual
def uptoBulk {H : Type} : DataW H → Nat
  | .lit (.string bytes) => bytes.length + 1
  | .lit _ => 1
  | .nil => 1
  | .ptr d => uptoBulk d + 1
  | .slice elems spare => uptoBulkAll elems + uptoBulkAll spare + 1
  | .agg parts => uptoBulkAll parts + 1
  | .iface _ d => uptoBulk d + 1
  | .map entries => uptoBulkEntries entries + 1
  | .held _ => 1
def uptoBulkAll {H : Type} : List (DataW H) → Nat
  | [] => 0
  | d :: r => uptoBulk d + uptoBulkAll r
def uptoBulkEntries {H : Type} : List (Lit × DataW H) → Nat
  | [] => 0
  | x :: r => uptoBulkEntry x + uptoBulkEntries r
def uptoBulkEntry {H : Type} : Lit × DataW H → Nat
  | (.string bytes, d) => bytes.length + uptoBulk d + 1
  | (_, d) => uptoBulk d + 1
 end
def uptoSmall : (H : Type) → List (DataW H) → Bool := fun _ ds => decide (uptoBulkAll ds ≤ 1048576)
def OpenSpec.upto (s : _root_.Go.ChangeSpec) : _root_.Go.OpenSpec := { _root_.Go.OpenSpec.ofChange s with cond := some uptoSmall }

/-- 'palingslaw11.FlowDoms', WHERE WHAT IT READS IS OF BULK AT MOST 1048576: true; the input reads as it did. -/
def flowDomsUptoRow : OpenClaim := { program := "ytgcmcgbkdeealaa", sum := "baf5a4ee0e083d678522b386b0baa97e3a9aab23e0175466bcdfafcc3bb40820", func := "palings/palingslaw11.FlowDoms", spec := "flowDoms", apart := false, narrowed := true }
def FlowDomsUptoSaid : Prop := flowDomsUptoRow.holds Try.pinned (OpenSpec.upto flowDomsSpec)

/-- 'palingslaw11.FlowDepths', WHERE WHAT IT READS IS OF BULK AT MOST 1048576: true; the input reads as it did. -/
def flowDepthsUptoRow : OpenClaim := { program := "ytgcmcgbkdeealaa", sum := "baf5a4ee0e083d678522b386b0baa97e3a9aab23e0175466bcdfafcc3bb40820", func := "palings/palingslaw11.FlowDepths", spec := "flowDepths", apart := false, narrowed := true }
def FlowDepthsUptoSaid : Prop := flowDepthsUptoRow.holds Try.pinned (OpenSpec.upto flowDepthsSpec)

/-- 'palingslaw11.FlowTree', WHERE WHAT IT READS IS OF BULK AT MOST 1048576: true; the input reads as it did. -/
def flowTreeUptoRow : OpenClaim := { program := "ytgcmcgbkdeealaa", sum := "baf5a4ee0e083d678522b386b0baa97e3a9aab23e0175466bcdfafcc3bb40820", func := "palings/palingslaw11.FlowTree", spec := "flowTree", apart := false, narrowed := true }
def FlowTreeUptoSaid : Prop := flowTreeUptoRow.holds Try.pinned (OpenSpec.upto flowTreeSpec)

/-- 'palingslaw11.FlowLine', WHERE WHAT IT READS IS OF BULK AT MOST 1048576: true; the input reads as it did. -/
def flowLineUptoRow : OpenClaim := { program := "ytgcmcgbkdeealaa", sum := "baf5a4ee0e083d678522b386b0baa97e3a9aab23e0175466bcdfafcc3bb40820", func := "palings/palingslaw11.FlowLine", spec := "flowLine", apart := false, narrowed := true }
def FlowLineUptoSaid : Prop := flowLineUptoRow.holds Try.pinned (OpenSpec.upto flowLineSpec)

/-- 'palingslaw11.FlowOrders', WHERE WHAT IT READS IS OF BULK AT MOST 1048576: true; the input reads as it did. -/
def flowOrdersUptoRow : OpenClaim := { program := "ytgcmcgbkdeealaa", sum := "baf5a4ee0e083d678522b386b0baa97e3a9aab23e0175466bcdfafcc3bb40820", func := "palings/palingslaw11.FlowOrders", spec := "flowOrders", recurses := true, apart := false, narrowed := true }
def FlowOrdersUptoSaid : Prop := flowOrdersUptoRow.holds Try.pinned (OpenSpec.upto flowOrdersSpec)

end Rows
end Go.Proofs.Ytgcmcgbkdeealaa
