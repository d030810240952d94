/-
  No cell of these rows narrows 'for every input' (looked for: loops, veiled, ifaces, maps, wideKeys, modest, calm, conditions, laid).
  DERIVED. THE GIVEN ROWS OF THIS SEAT. 5 by the template 'for every input the law returns true; each argument reads behind the call as it read before'; 0 by the template 'total and deterministic' (their statements: YtfplmdjlgjgbgaaTotals.lean).
  GIVEN WITH THE SEED: the statements are not yours to turn. If you find one false, say at which input.
  Laid BY PROGRAM, IN A SANDBOX (cutbox-rows.mjs): the forced cells as the released guide's own fill.sh prints them over the translation facf57cc43f0300a… (all of the seat's roots in one cut). By AI agents, Wed Nov 11 2026. No macro, syntax, notation, axiom, sorry.
-/
import Derived.Test.YtfplmdjlgjgbgaaChecked
import GoSem.Claim
import GoSem.ClaimJoined
import GoSem.ClaimMapViews
import Derived.JoinedTies
import Derived.KernelRfl
namespace Go.Proofs.Ytfplmdjlgjgbgaa
/- THE CELL 'sum', in the pinned program and in every row, IS THE sha256 OF THE DUMP (.gsa) THAT YtfplmdjlgjgbgaaProg.lean LOADS. Nothing in Lean hashes anything: it is a label: what it is worth is what the hold of that sum in a sandbox is worth. -/
noncomputable def Try.pinned : Pinned := { name := "ytfplmdjlgjgbgaa", sum := "facf57cc43f0300ae383da819b1cddbd3245db1f45c8e5c8661c7e5fc29bbad0", checked := Try.checked }
namespace Rows
def none {H : Type} : Left H := { results := [], args := [] }

/-- 'palingslaw15.LiveLine': WHATEVER THE INPUT: true; the input reads as it did. -/
def liveLineSpec : ChangeSpec := { name := "liveLine", fn := fun _ => fun
  | [d] => { results := [.lit (.bool true)], args := [d] }
  | _ => none }
def liveLineRow : OpenClaim := { program := "ytfplmdjlgjgbgaa", sum := "facf57cc43f0300ae383da819b1cddbd3245db1f45c8e5c8661c7e5fc29bbad0", func := "palings/palingslaw15.LiveLine", spec := "liveLine", unfollowed := true, recurses := true, apart := false }
def LiveLineSaid : Prop := liveLineRow.holds Try.pinned (OpenSpec.ofChange liveLineSpec)

/-- ITS FALSE NEIGHBOUR: 'it returns false'. Refute it at one input. -/
def liveLineWrong : ChangeSpec := { name := "liveLine", fn := fun _ => fun
  | [d] => { results := [.lit (.bool false)], args := [d] }
  | _ => none }
def LiveLineWrongFalsely : Prop := liveLineRow.holds Try.pinned (OpenSpec.ofChange liveLineWrong)

/-- 'palingslaw15.LiveSets': WHATEVER THE INPUT: true; the input reads as it did. -/
def liveSetsSpec : ChangeSpec := { name := "liveSets", fn := fun _ => fun
  | [d] => { results := [.lit (.bool true)], args := [d] }
  | _ => none }
def liveSetsRow : OpenClaim := { program := "ytfplmdjlgjgbgaa", sum := "facf57cc43f0300ae383da819b1cddbd3245db1f45c8e5c8661c7e5fc29bbad0", func := "palings/palingslaw15.LiveSets", spec := "liveSets", unfollowed := true, recurses := true, apart := false }
def LiveSetsSaid : Prop := liveSetsRow.holds Try.pinned (OpenSpec.ofChange liveSetsSpec)

/-- ITS FALSE NEIGHBOUR: 'it returns false'. Refute it at one input. -/
def liveSetsWrong : ChangeSpec := { name := "liveSets", fn := fun _ => fun
  | [d] => { results := [.lit (.bool false)], args := [d] }
  | _ => none }
def LiveSetsWrongFalsely : Prop := liveSetsRow.holds Try.pinned (OpenSpec.ofChange liveSetsWrong)

/-- 'palingslaw15.LivePaints': WHATEVER THE INPUT: true; the input reads as it did. -/
def livePaintsSpec : ChangeSpec := { name := "livePaints", fn := fun _ => fun
  | [d1, d2] => { results := [.lit (.bool true)], args := [d1, d2] }
  | _ => none }
def livePaintsRow : OpenClaim := { program := "ytfplmdjlgjgbgaa", sum := "facf57cc43f0300ae383da819b1cddbd3245db1f45c8e5c8661c7e5fc29bbad0", func := "palings/palingslaw15.LivePaints", spec := "livePaints", unfollowed := true, recurses := true, apart := false }
def LivePaintsSaid : Prop := livePaintsRow.holds Try.pinned (OpenSpec.ofChange livePaintsSpec)

/-- ITS FALSE NEIGHBOUR: 'it returns false'. Refute it at one input. -/
def livePaintsWrong : ChangeSpec := { name := "livePaints", fn := fun _ => fun
  | [d1, d2] => { results := [.lit (.bool false)], args := [d1, d2] }
  | _ => none }
def LivePaintsWrongFalsely : Prop := livePaintsRow.holds Try.pinned (OpenSpec.ofChange livePaintsWrong)

/-- 'palingslaw15.LiveSame': WHATEVER THE INPUT: true; the input reads as it did. -/
def liveSameSpec : ChangeSpec := { name := "liveSame", fn := fun _ => fun
  | [d1, d2] => { results := [.lit (.bool true)], args := [d1, d2] }
  | _ => none }
def liveSameRow : OpenClaim := { program := "ytfplmdjlgjgbgaa", sum := "facf57cc43f0300ae383da819b1cddbd3245db1f45c8e5c8661c7e5fc29bbad0", func := "palings/palingslaw15.LiveSame", spec := "liveSame", unfollowed := true, recurses := true, apart := false }
def LiveSameSaid : Prop := liveSameRow.holds Try.pinned (OpenSpec.ofChange liveSameSpec)

/-- ITS FALSE NEIGHBOUR: 'it returns false'. Refute it at one input. -/
def liveSameWrong : ChangeSpec := { name := "liveSame", fn := fun _ => fun
  | [d1, d2] => { results := [.lit (.bool false)], args := [d1, d2] }
  | _ => none }
def LiveSameWrongFalsely : Prop := liveSameRow.holds Try.pinned (OpenSpec.ofChange liveSameWrong)

/-- 'palingslaw15.LiveDead': WHATEVER THE INPUT: true; the input reads as it did. -/
def liveDeadSpec : ChangeSpec := { name := "liveDead", fn := fun _ => fun
  | [d] => { results := [.lit (.bool true)], args := [d] }
  | _ => none }
def liveDeadRow : OpenClaim := { program := "ytfplmdjlgjgbgaa", sum := "facf57cc43f0300ae383da819b1cddbd3245db1f45c8e5c8661c7e5fc29bbad0", func := "palings/palingslaw15.LiveDead", spec := "liveDead", unfollowed := true, recurses := true, apart := false }
def LiveDeadSaid : Prop := liveDeadRow.holds Try.pinned (OpenSpec.ofChange liveDeadSpec)

/-- ITS FALSE NEIGHBOUR: 'it returns false'. Refute it at one input. -/
def liveDeadWrong : ChangeSpec := { name := "liveDead", fn := fun _ => fun
  | [d] => { results := [.lit (.bool false)], args := [d] }
  | _ => none }
def LiveDeadWrongFalsely : Prop := liveDeadRow.holds Try.pinned (OpenSpec.ofChange liveDeadWrong)

/- THE SECOND FORM. 'bulk': how many values and letters a reading holds, each counted each time it is reached (what is shared counts as often as it is met; a slice's spare places count too). A statement '..UptoSaid' is the law's where the arguments, and the package variables that the reading takes, are together of bulk at most 1048576: NARROWER than '..Said'. Prove '..Said' where nothing that the law and all that it calls make is longer than what came in: it says more and counts as full. Else prove '..UptoSaid'. A law counts once. -/
mutual
def uptoBulk {H : Type} : DataW H → Nat
  | .lit (.string bytes) => bytes.length + 1
  | .lit _ => 1
  | .nil => 1
  | .ptr d => uptoBulk d + 1
  | .slice elems spare => uptoBulkAll elems + uptoBulkAll spare + 1
  | .agg parts => uptoBulkAll parts + 1
  | .iface _ d => uptoBulk d + 1
  | .map entries => uptoBulkEntries entries + 1
  | .held _ => 1
def uptoBulkAll {H : Type} : List (DataW H) → Nat
  | [] => 0
  | d :: r => uptoBulk d + uptoBulkAll r
def uptoBulkEntries {H : Type} : List (Lit × DataW H) → Nat
  | [] => 0
  | x :: r => uptoBulkEntry x + uptoBulkEntries r
def uptoBulkEntry {H : Type} : Lit × DataW H → Nat
  | (.string bytes, d) => bytes.length + uptoBulk d + 1
  | (_, d) => uptoBulk d + 1
 end
def uptoSmall : (H : Type) → List (DataW H) → Bool := fun _ ds => decide (uptoBulkAll ds ≤ 1048576)
def OpenSpec.upto (s : _root_.Go.ChangeSpec) : _root_.Go.OpenSpec := { _root_.Go.OpenSpec.ofChange s with cond := some uptoSmall }

/-- 'palingslaw15.LiveLine', WHERE WHAT IT READS IS OF BULK AT MOST 1048576: true; the input reads as it did. -/
def liveLineUptoRow : OpenClaim := { program := "ytfplmdjlgjgbgaa", sum := "facf57cc43f0300ae383da819b1cddbd3245db1f45c8e5c8661c7e5fc29bbad0", func := "palings/palingslaw15.LiveLine", spec := "liveLine", unfollowed := true, recurses := true, apart := false, narrowed := true }
def LiveLineUptoSaid : Prop := liveLineUptoRow.holds Try.pinned (OpenSpec.upto liveLineSpec)

/-- 'palingslaw15.LiveSets', WHERE WHAT IT READS IS OF BULK AT MOST 1048576: true; the input reads as it did. -/
def liveSetsUptoRow : OpenClaim := { program := "ytfplmdjlgjgbgaa", sum := "facf57cc43f0300ae383da819b1cddbd3245db1f45c8e5c8661c7e5fc29bbad0", func := "palings/palingslaw15.LiveSets", spec := "liveSets", unfollowed := true, recurses := true, apart := false, narrowed := true }
def LiveSetsUptoSaid : Prop := liveSetsUptoRow.holds Try.pinned (OpenSpec.upto liveSetsSpec)

/-- 'palingslaw15.LivePaints', WHERE WHAT IT READS IS OF BULK AT MOST 1048576: true; the input reads as it did. -/
def livePaintsUptoRow : OpenClaim := { program := "ytfplmdjlgjgbgaa", sum := "facf57cc43f0300ae383da819b1cddbd3245db1f45c8e5c8661c7e5fc29bbad0", func := "palings/palingslaw15.LivePaints", spec := "livePaints", unfollowed := true, recurses := true, apart := false, narrowed := true }
def LivePaintsUptoSaid : Prop := livePaintsUptoRow.holds Try.pinned (OpenSpec.upto livePaintsSpec)

/-- 'palingslaw15.LiveSame', WHERE WHAT IT READS IS OF BULK AT MOST 1048576: true; the input reads as it did. -/
def liveSameUptoRow : OpenClaim := { program := "ytfplmdjlgjgbgaa", sum := "facf57cc43f0300ae383da819b1cddbd3245db1f45c8e5c8661c7e5fc29bbad0", func := "palings/palingslaw15.LiveSame", spec := "liveSame", unfollowed := true, recurses := true, apart := false, narrowed := true }
def LiveSameUptoSaid : Prop := liveSameUptoRow.holds Try.pinned (OpenSpec.upto liveSameSpec)

/-- 'palingslaw15.LiveDead', WHERE WHAT IT READS IS OF BULK AT MOST 1048576: true; the input reads as it did. -/
def liveDeadUptoRow : OpenClaim := { program := "ytfplmdjlgjgbgaa", sum := "facf57cc43f0300ae383da819b1cddbd3245db1f45c8e5c8661c7e5fc29bbad0", func := "palings/palingslaw15.LiveDead", spec := "liveDead", unfollowed := true, recurses := true, apart := false, narrowed := true }
def LiveDeadUptoSaid : Prop := liveDeadUptoRow.holds Try.pinned (OpenSpec.upto liveDeadSpec)

end Rows
end Go.Proofs.Ytfplmdjlgjgbgaa
