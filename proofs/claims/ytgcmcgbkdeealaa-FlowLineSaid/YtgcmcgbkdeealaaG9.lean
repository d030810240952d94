/- Loops within each other. -/
import Derived.Test.YtgcmcgbkdeealaaG8
namespace Go.Proofs.Ytgcmcgbkdeealaa
set_option linter.unusedVariables false
set_option linter.unusedSimpArgs false
open Go

def ln1 (n : Nat) : List (List Int) := [[1]] ++ (List.range n).map fun (i : Nat) => [(i : Int) + 2]
def ln2 (n : Nat) : List (List Int) := ln1 n ++ [[(n : Int) + 2]]
def lineW (n : Nat) : List (List Int) := ln2 n ++ ((List.range n).map fun (j : Nat) => [(n : Int) - j, ((n + 2 + j : Nat) : Int) + 1]) ++ [[]]
def wantL (n b : Nat) : Nat := if 1 ≤ b ∧ b ≤ n then b else if b = n + 1 then n else if n + 2 ≤ b ∧ b < n + 2 + n then n - (b - n - 2) else 0
theorem line_all : ∀ n, n < 8 → allM (lineW n) = true ∧ ∀ b, b < (lineW n).length → depB (lineW n) b = wantL n b := by
  intro n hn
  have h : (List.range 8).all (fun n => allM (lineW n) && (List.range (lineW n).length).all fun b => Nat.beq (depB (lineW n) b) (wantL n b)) = true := by decide +kernel
  have h1 := List.all_eq_true.1 h n (List.mem_range.2 hn)
  rw [Bool.and_eq_true] at h1
  exact ⟨h1.1, fun b hb => Nat.eq_of_beq_eq_true (List.all_eq_true.1 h1.2 b (List.mem_range.2 hb))⟩
theorem line_dep {n b : Nat} (hn : n < 8) (hb : b < (lineW n).length) : dep (lineW n) (lineW n).length b = wantL n b := by
  rw [dep_eq (line_all n hn).1 hb, (line_all n hn).2 b hb]
end Go.Proofs.Ytgcmcgbkdeealaa
