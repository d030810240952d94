/- Layer 8: a run and its fuel, plainly. -/
import Derived.Test.YtoknjpmlloikhaaR10
namespace Go.Proofs.Ytoknjpmlloikhaa
set_option linter.unusedVariables false
set_option linter.unusedSimpArgs false
open Go Go.RowKit

theorem finishM_steps {p : SsaProg} {m : Mch} {f : Frm} {e : SsaEnd} : (finishM p m f e).steps = m.steps := by
  unfold finishM
  split
  · unfold leaveM; split
    · rfl
    · dsimp only; split <;> rfl
  split
  · rfl
  split <;> rfl
theorem doI_steps {p : SsaProg} {m m2 : Mch} {f : Frm} {i : SsaIns} (h : doI p m f i = some m2) : m2.steps = m.steps := by
  unfold doI enterM at h
  dsimp only at h
  repeat' split at h
  all_goals first | (cases h; rfl) | (cases h; split <;> rfl) | cases h
theorem stepM_steps {p : SsaProg} {m m2 : Mch} (h : stepM p m = some m2) : m2.steps = m.steps := by
  unfold stepM at h
  split at h
  · cases h; rfl
  · dsimp only at h
    split at h
    · cases h; exact finishM_steps
    · have := doI_steps h; exact this
/-- So many steps on; none: it was at an end before, or there are too many calls. -/
def goM (p : SsaProg) : Nat → Mch → Option Mch
  | 0, m => some m
  | k + 1, m => if m.fin = true then none else (stepM p { m with steps := m.steps + 1 }).bind (goM p k)
theorem goM_steps {p : SsaProg} : ∀ {k : Nat} {m m2 : Mch}, goM p k m = some m2 → m2.steps = m.steps + k
  | 0, m, m2, h => by cases h; rfl
  | k + 1, m, m2, h => by
    unfold goM at h
    split at h
    · cases h
    · obtain ⟨m1, h1, h2⟩ := Option.bind_eq_some_iff.1 h
      have e1 := stepM_steps h1
      have e2 := goM_steps h2
      have e1 : m1.steps = m.steps + 1 := e1
      omega
theorem goM_add {p : SsaProg} : ∀ {j k : Nat} {m m1 m2 : Mch}, goM p j m = some m1 → goM p k m1 = some m2 → goM p (j + k) m = some m2
  | 0, k, m, m1, m2, h1, h2 => by cases h1; rw [Nat.zero_add]; exact h2
  | j + 1, k, m, m1, m2, h1, h2 => by
    rw [show j + 1 + k = j + k + 1 by omega]
    unfold goM at h1 ⊢
    split at h1
    · cases h1
    · rename_i hf
      rw [if_neg hf]
      obtain ⟨m3, h3, h4⟩ := Option.bind_eq_some_iff.1 h1
      exact Option.bind_eq_some_iff.2 ⟨m3, h3, goM_add h4 h2⟩
/-- What ends is so, if the fuel is enough. -/
theorem runM_out {p : SsaProg} {fuel : Int} : ∀ {k n : Nat} {m m2 : Mch}, goM p k m = some m2 → m2.fin = true → k < n → (k = 0 ∨ (m.steps : Int) + k ≤ fuel) → runM p fuel n m = .out m2
  | 0, n + 1, m, m2, h, hf, hn, _ => by
    cases h
    unfold runM; rw [if_pos hf]
  | k + 1, n + 1, m, m2, h, hf, hn, hk => by
    unfold goM at h
    split at h
    · cases h
    rename_i h0
    obtain ⟨m1, h1, h2⟩ := Option.bind_eq_some_iff.1 h
    have e1 : m1.steps = m.steps + 1 := stepM_steps h1
    unfold runM
    rw [if_neg h0, if_neg (by omega), h1]
    exact runM_out h2 hf (by omega) (by omega)
/-- .. if it isn't enough, not. -/
theorem runM_short {p : SsaProg} {fuel : Int} : ∀ {k n : Nat} {m m2 : Mch}, goM p k m = some m2 → 0 < k → fuel < (m.steps : Int) + k → runM p fuel n m = .spent
  | k, 0, m, m2, h, _, _ => rfl
  | k + 1, n + 1, m, m2, h, _, hk => by
    unfold goM at h
    split at h
    · cases h
    rename_i h0
    obtain ⟨m1, h1, h2⟩ := Option.bind_eq_some_iff.1 h
    have e1 : m1.steps = m.steps + 1 := stepM_steps h1
    unfold runM
    rw [if_neg h0]
    by_cases hs : fuel ≤ m.steps
    · rw [if_pos hs]
    · rw [if_neg hs, h1]
      by_cases h3 : k = 0
      · omega
      · exact runM_short h2 (by omega) (by omega)
theorem runM_inv {p : SsaProg} {fuel : Int} : ∀ {n : Nat} {m m2 : Mch}, runM p fuel n m = .out m2 → ∃ k, goM p k m = some m2 ∧ m2.fin = true ∧ k < n ∧ (k = 0 ∨ (m.steps : Int) + k ≤ fuel)
  | n + 1, m, m2, h => by
    unfold runM at h
    split at h
    · rename_i hf
      cases h
      exact ⟨0, rfl, hf, by omega, .inl rfl⟩
    rename_i h0
    split at h
    · cases h
    rename_i hs
    split at h
    · cases h
    · rename_i m1 h1
      obtain ⟨k, h2, h3, h4, h5⟩ := runM_inv h
      have e1 : m1.steps = m.steps + 1 := stepM_steps h1
      refine ⟨k + 1, ?_, h3, by omega, .inr (by omega)⟩
      unfold goM
      rw [if_neg h0]
      exact Option.bind_eq_some_iff.2 ⟨m1, h1, h2⟩
theorem runOf_inv {p : SsaProg} {ins : List (Sl Int)} {fuel : Int} {m : Mch} (h : runOf p ins fuel = .out m) : ∃ k, goM p k (m0 p (startA p ins)) = some m ∧ m.fin = true ∧ 0 < k ∧ m.steps = k ∧ (k : Int) ≤ fuel := by
  obtain ⟨k, h1, h2, h3, h4⟩ := runM_inv h
  have hs : m.steps = 0 + k := goM_steps h1
  have h0 : 0 < k := by
    rcases Nat.eq_zero_or_pos k with h | h
    · subst h
      cases h1
      exact absurd h2 (show ¬ (false = true) by decide)
    · exact h
  have e : (m0 p (startA p ins)).steps = 0 := rfl
  refine ⟨k, h1, h2, h0, by omega, ?_⟩
  rcases h4 with h4 | h4
  · omega
  · rw [e] at h4; omega
theorem runOf_out {p : SsaProg} {ins : List (Sl Int)} {fuel : Int} {m : Mch} {k : Nat} (h : goM p k (m0 p (startA p ins)) = some m) (hf : m.fin = true) (hk : (k : Int) ≤ fuel) : runOf p ins fuel = .out m :=
  runM_out h hf (by omega) (.inr (by show ((0 : Nat) : Int) + k ≤ fuel; omega))
theorem runOf_short {p : SsaProg} {ins : List (Sl Int)} {fuel : Int} {m : Mch} {k : Nat} (h : goM p k (m0 p (startA p ins)) = some m) (hk0 : 0 < k) (hk : fuel < (k : Int)) : runOf p ins fuel = .spent :=
  runM_short h hk0 (by show fuel < ((0 : Nat) : Int) + k; omega)
end Go.Proofs.Ytoknjpmlloikhaa
