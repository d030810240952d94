/- In how many loops a block is: what is gathered of one top, and counted. -/
import Derived.Test.YtgcmcgbkdeealaaG6
namespace Go.Proofs.Ytgcmcgbkdeealaa
set_option linter.unusedVariables false
set_option linter.unusedSimpArgs false
open Go

/-- Gathered: what is in the loops of this top that these go back from. -/
def Ac (ways : List (List Int)) (top : Nat) (l : List Nat) (r : List Bool) : Prop := r.length = ways.length ∧ ∀ k : Nat, r[k]? = some true ↔ ∃ b, b ∈ l ∧ Dom ways b top ∧ InL ways top b k
theorem Ac.none (ways : List (List Int)) (top : Nat) : Ac ways top [] (List.replicate ways.length false) := by
  refine ⟨by simp, fun k => ⟨fun h => ?_, fun ⟨_, h, _⟩ => by cases h⟩⟩
  rw [List.getElem?_replicate] at h; split at h <;> cases h
theorem Ac.skip {ways : List (List Int)} {top b : Nat} {l : List Nat} {r : List Bool} (h : Ac ways top l r) (hb : ¬ Dom ways b top) : Ac ways top (l ++ [b]) r := by
  refine ⟨h.1, fun k => (h.2 k).trans ⟨?_, ?_⟩⟩
  · rintro ⟨x, h1, h2⟩; exact ⟨x, by simp [h1], h2⟩
  · rintro ⟨x, h1, h2⟩
    rcases List.mem_append.1 h1 with h1 | h1
    · exact ⟨x, h1, h2⟩
    · have : x = b := by simpa using h1
      subst this; exact absurd h2.1 hb
theorem Ac.more {ways : List (List Int)} {top b : Nat} {l : List Nat} {r r' p : List Bool} (h : Ac ways top l r) (hb : Dom ways b top) (hp : ∀ k : Nat, p[k]? = some true ↔ InL ways top b k) (hl : r'.length = ways.length)
    (hr : ∀ k : Nat, r'[k]? = some true ↔ (r[k]? = some true ∨ p[k]? = some true)) : Ac ways top (l ++ [b]) r' := by
  refine ⟨hl, fun k => (hr k).trans ⟨?_, ?_⟩⟩
  · rintro (h1 | h1)
    · obtain ⟨x, h2, h3⟩ := (h.2 k).1 h1; exact ⟨x, by simp [h2], h3⟩
    · exact ⟨b, by simp, hb, (hp k).1 h1⟩
  · rintro ⟨x, h1, h2, h3⟩
    rcases List.mem_append.1 h1 with h1 | h1
    · exact .inl ((h.2 k).2 ⟨x, h1, h2, h3⟩)
    · have : x = b := by simpa using h1
      subst this; exact .inr ((hp k).2 h3)

/-- Or'ed so far, ahead of i. -/
def Ord (r p r' : List Bool) (i : Nat) : Prop := r'.length = r.length ∧ ∀ k : Nat, r'[k]? = some true ↔ (r[k]? = some true ∨ (k < i ∧ p[k]? = some true))
theorem Ord.none (r p : List Bool) : Ord r p r 0 := ⟨rfl, fun k => by simp⟩
theorem Ord.put {r p r' : List Bool} {i : Nat} {x y : Bool} (h : Ord r p r' i) (hx : r'[i]? = some x) (hy : p[i]? = some y) : Ord r p (r'.set i (x || y)) (i + 1) := by
  have hi := (List.getElem?_eq_some_iff.1 hx).1
  refine ⟨by rw [List.length_set]; exact h.1, fun k => ?_⟩
  by_cases e : k = i
  · subst e
    rw [List.getElem?_set_self hi]
    have := h.2 k
    rw [hx] at this
    rw [hy]
    have h0 : ¬ k < k := Nat.lt_irrefl k
    simp only [h0, false_and, or_false] at this
    rw [← this]
    simp
  · rw [List.getElem?_set_ne (Ne.symm e), h.2 k]
    constructor
    · rintro (h1 | ⟨h1, h2⟩)
      · exact .inl h1
      · exact .inr ⟨by omega, h2⟩
    · rintro (h1 | ⟨h1, h2⟩)
      · exact .inl h1
      · exact .inr ⟨by omega, h2⟩
theorem Ord.end_ {r p r' : List Bool} {i : Nat} (h : Ord r p r' i) (hi : p.length ≤ i) (k : Nat) : r'[k]? = some true ↔ (r[k]? = some true ∨ p[k]? = some true) := by
  rw [h.2 k]
  constructor
  · rintro (h1 | ⟨h1, h2⟩)
    · exact .inl h1
    · exact .inr h2
  · rintro (h1 | h2)
    · exact .inl h1
    · exact .inr ⟨by have := (List.getElem?_eq_some_iff.1 h2).1; omega, h2⟩

end Go.Proofs.Ytgcmcgbkdeealaa
