/- Layer 7: known, plainly. -/
import Derived.Test.YtboicgdblbfbeaaS11
import Derived.Test.YtboicgdblbfbeaaS9
namespace Go.Proofs.Ytboicgdblbfbeaa
set_option linter.unusedVariables false
set_option linter.unusedSimpArgs false
open Go Go.RowKit

/-- The ways of one block, met one by one with set q. -/
def ways7 (q : Nat) : List SsaEdge → Bool × Kn7 → Bool × Kn7
  | [], s => s
  | w :: ws, s => let r := meet7 s.2 w.fTo.toNat q; ways7 q ws (r.1 || s.1, r.2)
/-- One block. -/
def blk7 (f : SsaFunc) (r : List Bool) (n : Nat) (s : Bool × Kn7) : Bool × Kn7 :=
  if nth r n = false ∨ (0 < n ∧ s.2.pos[n]?.join = none) then s
  else
    let s1 : Bool × Kn7 := if s.2.pos[n]?.join = none then (true, ⟨s.2.pos.set n (some s.2.ls.length), s.2.ls ++ [[]]⟩) else s
    let l := s1.2.ls.getD (s1.2.pos[n]?.join.getD 0) []
    ways7 s1.2.ls.length (nth f.fBlocks.xs n).fEnd.fWays.xs (s1.1, ⟨s1.2.pos, s1.2.ls ++ [l ++ madeB (nth f.fBlocks.xs n)]⟩)
/-- One round over all blocks. -/
def round7 (f : SsaFunc) (r : List Bool) : Nat → Bool × Kn7 → Bool × Kn7
  | 0, s => s
  | n + 1, s => blk7 f r n (round7 f r n s)
def fix7 (f : SsaFunc) (r : List Bool) : Nat → Kn7 → Kn7
  | 0, s => s
  | k + 1, s => let t := round7 f r f.fBlocks.xs.length (false, s); if t.1 then fix7 f r k t.2 else t.2
/-- What known lets known: the fuel is more than the rounds it takes. -/
def known7 (f : SsaFunc) : Kn7 := fix7 f (reachB7 f) (f.fBlocks.xs.length * ((madeAll f.fBlocks.xs).length + 2) + 1) ⟨List.replicate f.fBlocks.xs.length none, []⟩

/-- How much can still be lost. -/
def left7 (U : List Int) (s : Kn7) : Nat := (s.pos.map fun p => match p with
  | none => U.length + 1
  | some q => (U.filter (· ∈ s.ls.getD q [])).length).sum
end Go.Proofs.Ytboicgdblbfbeaa
