/- Layer 12: labels that are raised, one request behind the other, plainly. -/
import Derived.Test.YtomhieglgfjloaaS28
namespace Go.Proofs.Ytomhieglgfjloaa
set_option linter.unusedVariables false
set_option linter.unusedSimpArgs false
open Go Go.RowKit

/-- What has a label: (0, f, v) a value of a function, (1, i, 0) an array, (2, f, 0) what a function returns. -/
abbrev Tgt := Nat × Nat × Int
abbrev Lb := Tgt → Int
def updT (L : Lb) (g : Tgt) (x : Int) : Lb := fun h => if h = g then x else L h
structure Rq where
  g : Tgt
  e : Lb → Int
def appR (s : Lb × Bool) (q : Rq) : Lb × Bool := (updT s.1 q.g (max (s.1 q.g) (q.e s.1)), s.2 || decide (s.1 q.g < q.e s.1))
def runR (qs : List Rq) (s : Lb × Bool) : Lb × Bool := qs.foldl appR s
def MonoE (e : Lb → Int) : Prop := ∀ L L' : Lb, (∀ g, L g ≤ L' g) → e L ≤ e L'
def ClosedR (qs : List Rq) (L : Lb) : Prop := ∀ q ∈ qs, q.e L ≤ L q.g
theorem updT_same {L : Lb} {g : Tgt} {x : Int} : updT L g x g = x := if_pos rfl
theorem updT_ne {L : Lb} {g h : Tgt} {x : Int} (e : h ≠ g) : updT L g x h = L h := if_neg e
theorem updT_self {L : Lb} {g : Tgt} {x : Int} (e : x = L g) : updT L g x = L := by
  funext h
  unfold updT
  split
  · rename_i c; rw [c, e]
  · rfl
theorem runR_nil {s : Lb × Bool} : runR [] s = s := rfl
theorem runR_cons {q : Rq} {qs : List Rq} {s : Lb × Bool} : runR (q :: qs) s = runR qs (appR s q) := rfl
theorem runR_app {qs qs' : List Rq} {s : Lb × Bool} : runR (qs ++ qs') s = runR qs' (runR qs s) := List.foldl_append
theorem appR_ge {s : Lb × Bool} {q : Rq} (g : Tgt) : s.1 g ≤ (appR s q).1 g := by
  unfold appR
  by_cases h : g = q.g
  · subst h
    show _ ≤ updT _ _ _ _
    rw [updT_same]; omega
  · show _ ≤ updT _ _ _ _
    rw [updT_ne h]; exact Int.le_refl _
theorem runR_ge : ∀ {qs : List Rq} {s : Lb × Bool} (g : Tgt), s.1 g ≤ (runR qs s).1 g
  | [], _, _ => Int.le_refl _
  | q :: qs, s, g => Int.le_trans (appR_ge g) (runR_ge (qs := qs) (s := appR s q) g)
theorem appR_le {s : Lb × Bool} {q : Rq} {L' : Lb} (hm : MonoE q.e) (hc : q.e L' ≤ L' q.g) (h : ∀ g, s.1 g ≤ L' g) : ∀ g, (appR s q).1 g ≤ L' g := fun g => by
  unfold appR
  show updT _ _ _ _ ≤ _
  by_cases e : g = q.g
  · subst e
    rw [updT_same]
    have := hm _ _ h
    have := h q.g
    omega
  · rw [updT_ne e]; exact h g
theorem runR_le {L' : Lb} : ∀ {qs : List Rq} {s : Lb × Bool}, (∀ q ∈ qs, MonoE q.e) → ClosedR qs L' → (∀ g, s.1 g ≤ L' g) → ∀ g, (runR qs s).1 g ≤ L' g
  | [], _, _, _, h => h
  | q :: qs, s, hm, hc, h => runR_le (qs := qs) (s := appR s q) (fun r hr => hm r (by simp [hr])) (fun r hr => hc r (by simp [hr])) (appR_le (hm q (by simp)) (hc q (by simp)) h)
theorem appR_no {s : Lb × Bool} {q : Rq} (h : (appR s q).2 = false) : s.2 = false ∧ (appR s q).1 = s.1 ∧ q.e s.1 ≤ s.1 q.g := by
  unfold appR at h ⊢
  have h : (s.2 || decide (s.1 q.g < q.e s.1)) = false := h
  rw [Bool.or_eq_false_iff, decide_eq_false_iff_not] at h
  refine ⟨h.1, updT_self ?_, by omega⟩
  have := h.2
  omega
theorem runR_no : ∀ {qs : List Rq} {s : Lb × Bool}, (runR qs s).2 = false → s.2 = false ∧ (runR qs s).1 = s.1 ∧ ClosedR qs s.1
  | [], s, h => ⟨h, rfl, fun q hq => (nomatch hq)⟩
  | q :: qs, s, h => by
    obtain ⟨h1, h2, h3⟩ := runR_no (qs := qs) (s := appR s q) h
    obtain ⟨h4, h5, h6⟩ := appR_no h1
    rw [h5] at h2 h3
    refine ⟨h4, h2, fun r hr => ?_⟩
    rcases List.mem_cons.1 hr with rfl | hr
    · exact h6
    · exact h3 r hr
/-- Nothing is raised where all is closed. -/
theorem runR_rest : ∀ {qs : List Rq} {s : Lb × Bool}, ClosedR qs s.1 → runR qs s = s
  | [], _, _ => rfl
  | q :: qs, s, h => by
    have hq := h q (by simp)
    have e : appR s q = s := by
      unfold appR
      refine Prod.ext (updT_self (by omega)) ?_
      show (s.2 || decide _) = s.2
      rw [decide_eq_false (by omega), Bool.or_false]
    rw [runR_cons, e]
    exact runR_rest fun r hr => h r (by simp [hr])
theorem runR_in {P : Tgt → Int → Prop} : ∀ {qs : List Rq} {s : Lb × Bool}, (∀ q ∈ qs, ∀ L : Lb, (∀ g, P g (L g)) → P q.g (q.e L)) → (∀ g, P g (s.1 g)) → ∀ g, P g ((runR qs s).1 g)
  | [], _, _, h => h
  | q :: qs, s, hq, h => runR_in (qs := qs) (s := appR s q) (fun r hr => hq r (by simp [hr])) fun g => by
    unfold appR
    show P g (updT _ _ _ g)
    by_cases e : g = q.g
    · subst e
      rw [updT_same]
      have h1 := hq q (by simp) s.1 h
      rcases Int.le_total (s.1 q.g) (q.e s.1) with h2 | h2
      · rw [Int.max_eq_right h2]; exact h1
      · rw [Int.max_eq_left h2]; exact h q.g
    · rw [updT_ne e]; exact h g
/-- How much may still be raised. -/
def potR (T : List Tgt) (M : Int) (L : Lb) : Nat := (T.map fun g => (M - L g).toNat).sum
theorem sum_le {α : Type} {f g : α → Nat} : ∀ {l : List α}, (∀ x ∈ l, f x ≤ g x) → (l.map f).sum ≤ (l.map g).sum
  | [], _ => Nat.le_refl _
  | a :: l, h => by
    rw [List.map_cons, List.map_cons, List.sum_cons, List.sum_cons]
    exact Nat.add_le_add (h a (by simp)) (sum_le fun x hx => h x (by simp [hx]))
theorem sum_lt {α : Type} {f g : α → Nat} : ∀ {l : List α}, (∀ x ∈ l, f x ≤ g x) → (∃ x ∈ l, f x < g x) → (l.map f).sum < (l.map g).sum
  | [], _, ⟨x, hx, _⟩ => nomatch hx
  | a :: l, h, ⟨x, hx, hlt⟩ => by
    rw [List.map_cons, List.map_cons, List.sum_cons, List.sum_cons]
    rcases List.mem_cons.1 hx with rfl | hx
    · exact Nat.add_lt_add_of_lt_of_le hlt (sum_le fun x hx => h x (by simp [hx]))
    · exact Nat.add_lt_add_of_le_of_lt (h a (by simp)) (sum_lt (fun x hx => h x (by simp [hx])) ⟨x, hx, hlt⟩)
theorem runR_pot {T : List Tgt} {M : Int} : ∀ {qs : List Rq} {s : Lb × Bool}, (∀ q ∈ qs, q.g ∈ T ∧ ∀ L : Lb, (∀ g, L g ≤ M) → q.e L ≤ M) → (∀ g, s.1 g ≤ M) → potR T M (runR qs s).1 ≤ potR T M s.1 ∧ ((runR qs s).2 = true → s.2 = true ∨ potR T M (runR qs s).1 < potR T M s.1)
  | [], s, _, _ => ⟨Nat.le_refl _, fun h => .inl h⟩
  | q :: qs, s, hq, hM => by
    have hq0 := hq q (by simp)
    have hM' : ∀ g, (appR s q).1 g ≤ M := fun g => by
      unfold appR
      show updT _ _ _ g ≤ M
      by_cases e : g = q.g
      · subst e
        rw [updT_same]
        have := hq0.2 s.1 hM
        have := hM q.g
        omega
      · rw [updT_ne e]; exact hM g
    obtain ⟨h1, h2⟩ := runR_pot (T := T) (qs := qs) (s := appR s q) (fun r hr => hq r (by simp [hr])) hM'
    have hle : ∀ g ∈ T, (M - (appR s q).1 g).toNat ≤ (M - s.1 g).toNat := fun g _ => by
      have := appR_ge (s := s) (q := q) g
      omega
    have h3 : potR T M (appR s q).1 ≤ potR T M s.1 := sum_le hle
    rw [runR_cons]
    refine ⟨Nat.le_trans h1 h3, fun h => ?_⟩
    rcases h2 h with h4 | h4
    · unfold appR at h4
      have h4 : (s.2 || decide (s.1 q.g < q.e s.1)) = true := h4
      rw [Bool.or_eq_true, decide_eq_true_eq] at h4
      rcases h4 with h4 | h4
      · exact .inl h4
      · refine .inr (Nat.lt_of_le_of_lt h1 (sum_lt hle ⟨q.g, hq0.1, ?_⟩))
        have e : (appR s q).1 q.g = max (s.1 q.g) (q.e s.1) := updT_same
        have := hq0.2 s.1 hM
        rw [e]
        omega
    · exact .inr (Nat.lt_of_lt_of_le h4 h3)
theorem potR_le {T : List Tgt} {M : Nat} {L : Lb} (h : ∀ g ∈ T, 0 ≤ L g) : potR T M L ≤ T.length * M := by
  unfold potR
  induction T with
  | nil => exact Nat.zero_le _
  | cons a T ih =>
    have := ih fun g hg => h g (by simp [hg])
    have := h a (by simp)
    rw [List.map_cons, List.sum_cons, List.length_cons, Nat.succ_mul]
    omega
/-- Rounds: as many as may be raised, and nothing is raised any more. -/
def roundsR (qs : List Rq) : Nat → Lb → Lb
  | 0, L => L
  | n + 1, L => roundsR qs n (runR qs (L, false)).1
theorem roundsR_succ {qs : List Rq} : ∀ {n : Nat} {L : Lb}, roundsR qs (n + 1) L = (runR qs (roundsR qs n L, false)).1
  | 0, _ => rfl
  | n + 1, L => roundsR_succ (qs := qs) (n := n) (L := (runR qs (L, false)).1)
theorem roundsR_rest {qs : List Rq} : ∀ {n : Nat} {L : Lb}, ClosedR qs L → roundsR qs n L = L
  | 0, _, _ => rfl
  | n + 1, L, h => by
    show roundsR qs n (runR qs (L, false)).1 = L
    rw [runR_rest (s := (L, false)) h]
    exact roundsR_rest h
theorem roundsR_le {qs : List Rq} {L' : Lb} (hm : ∀ q ∈ qs, MonoE q.e) (hc : ClosedR qs L') : ∀ {n : Nat} {L : Lb}, (∀ g, L g ≤ L' g) → ∀ g, roundsR qs n L g ≤ L' g
  | 0, _, h => h
  | n + 1, L, h => roundsR_le hm hc (n := n) (runR_le (s := (L, false)) hm hc h)
theorem roundsR_ge {qs : List Rq} : ∀ {n : Nat} {L : Lb} (g : Tgt), L g ≤ roundsR qs n L g
  | 0, _, _ => Int.le_refl _
  | n + 1, L, g => Int.le_trans (runR_ge (qs := qs) (s := (L, false)) g) (roundsR_ge (qs := qs) (n := n) g)
theorem roundsR_closed {qs : List Rq} {T : List Tgt} {M : Nat} (hq : ∀ q ∈ qs, q.g ∈ T ∧ ∀ L : Lb, (∀ g, L g ≤ (M : Int)) → q.e L ≤ M) : ∀ {n : Nat} {L : Lb}, (∀ g, L g ≤ (M : Int)) → potR T M L < n → ClosedR qs (roundsR qs n L)
  | 0, _, _, h => absurd h (Nat.not_lt_zero _)
  | n + 1, L, hM, h => by
    obtain ⟨h1, h2⟩ := runR_pot (T := T) (s := (L, false)) hq hM
    cases ht : (runR qs (L, false)).2 with
    | false =>
      have h3 := (runR_no ht).2.2
      rw [roundsR_rest h3]; exact h3
    | true =>
      have h4 := (h2 ht).resolve_left (by simp)
      refine roundsR_closed hq (n := n) ?_ (by have h4 : potR T M (runR qs (L, false)).1 < potR T M L := h4; omega)
      exact runR_in (P := fun _ x => x ≤ (M : Int)) (s := (L, false)) (fun q hq' L hL => (hq q hq').2 L hL) hM
end Go.Proofs.Ytomhieglgfjloaa
