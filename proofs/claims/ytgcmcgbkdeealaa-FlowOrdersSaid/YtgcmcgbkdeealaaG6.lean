/- In how many loops a block is. -/
import Derived.Test.YtgcmcgbkdeealaaG5
namespace Go.Proofs.Ytgcmcgbkdeealaa
set_option linter.unusedVariables false
set_option linter.unusedSimpArgs false
open Go

/-- k is in a loop of this top. -/
def InTop (ways : List (List Int)) (top k : Nat) : Prop := ∃ b, E ways b top ∧ Rch ways 0 (-1) b ∧ Dom ways b top ∧ InL ways top b k

open Classical in
/-- Of the tops ahead of m: in how many loops k is. -/
noncomputable def dep (ways : List (List Int)) (m k : Nat) : Nat := ((List.range m).filter fun t => decide (InTop ways t k)).length
theorem dep_zero (ways : List (List Int)) (k : Nat) : dep ways 0 k = 0 := by simp [dep]
theorem dep_yes {ways : List (List Int)} {m k : Nat} (h : InTop ways m k) : dep ways (m + 1) k = dep ways m k + 1 := by
  unfold dep
  rw [List.range_succ, List.filter_append]
  simp [h]
theorem dep_no {ways : List (List Int)} {m k : Nat} (h : ¬ InTop ways m k) : dep ways (m + 1) k = dep ways m k := by
  unfold dep
  rw [List.range_succ, List.filter_append]
  simp [h]
theorem dep_le (ways : List (List Int)) (m k : Nat) : dep ways m k ≤ m := by
  unfold dep
  refine Nat.le_trans (List.length_filter_le _ _) ?_
  simp
end Go.Proofs.Ytgcmcgbkdeealaa
