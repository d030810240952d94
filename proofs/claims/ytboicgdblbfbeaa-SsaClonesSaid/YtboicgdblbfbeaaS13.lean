/- Layer 7: known ends. -/
import Derived.Test.YtboicgdblbfbeaaS12
namespace Go.Proofs.Ytboicgdblbfbeaa
set_option linter.unusedVariables false
set_option linter.unusedSimpArgs false
open Go Go.RowKit

theorem sum_le7 {α : Type} {l : List α} {g h : α → Nat} (H : ∀ x ∈ l, g x ≤ h x) : (l.map g).sum ≤ (l.map h).sum := by
  induction l with
  | nil => exact Nat.le_refl _
  | cons a l ih =>
    simp only [List.map_cons, List.sum_cons]
    have := ih fun x hx => H x (by simp [hx])
    have := H a (by simp)
    omega
theorem sum_lt7 {α : Type} {l : List α} {g h : α → Nat} (H : ∀ x ∈ l, g x ≤ h x) {y : α} (hy : y ∈ l) (hlt : g y < h y) : (l.map g).sum < (l.map h).sum := by
  induction l with
  | nil => cases hy
  | cons a l ih =>
    simp only [List.map_cons, List.sum_cons]
    have h1 := sum_le7 (g := g) (h := h) (l := l) fun x hx => H x (by simp [hx])
    have h2 := H a (by simp)
    rcases List.mem_cons.1 hy with rfl | hy
    · omega
    · have := ih (fun x hx => H x (by simp [hx])) hy
      omega
theorem sum_set7 {α : Type} {v : α → Nat} {y : α} : ∀ {l : List α} {n : Nat} (h : n < l.length), ((l.set n y).map v).sum + v l[n] = (l.map v).sum + v y
  | a :: l, 0, _ => by simp only [List.set_cons_zero, List.map_cons, List.sum_cons, List.getElem_cons_zero]; omega
  | a :: l, n + 1, h => by
    have := sum_set7 (v := v) (y := y) (l := l) (n := n) (by simpa using h)
    simp only [List.set_cons_succ, List.map_cons, List.sum_cons, List.getElem_cons_succ]; omega

def valP7 (U : List Int) (ls : List (List Int)) (p : Option Nat) : Nat := match p with
  | none => U.length + 1
  | some q => (U.filter (· ∈ ls.getD q [])).length
theorem left7_eq {U : List Int} {s : Kn7} : left7 U s = (s.pos.map (valP7 U s.ls)).sum := rfl
theorem valP7_some {U : List Int} {ls : List (List Int)} {q : Nat} : valP7 U ls (some q) ≤ U.length := List.length_filter_le _ _
theorem filter_le7 {U a b : List Int} (h : ∀ x ∈ b, x ∈ a) : (U.filter (· ∈ b)).length ≤ (U.filter (· ∈ a)).length := by
  induction U with
  | nil => exact Nat.le_refl _
  | cons x U ih =>
    simp only [List.filter_cons]
    by_cases hb : x ∈ b
    · simp [hb, h x hb]; exact ih
    · by_cases ha : x ∈ a
      · simp [hb, ha]; omega
      · simp [hb, ha]; exact ih
theorem filter_lt7 {U a b : List Int} (h : ∀ x ∈ b, x ∈ a) {y : Int} (hU : y ∈ U) (ha : y ∈ a) (hb : y ∉ b) : (U.filter (· ∈ b)).length < (U.filter (· ∈ a)).length := by
  induction U with
  | nil => cases hU
  | cons x U ih =>
    have hle := filter_le7 (U := U) h
    simp only [List.filter_cons]
    rcases List.mem_cons.1 hU with rfl | hU
    · simp [ha, hb]; omega
    · have := ih hU
      by_cases hxb : x ∈ b
      · simp [hxb, h x hxb]; omega
      · by_cases hxa : x ∈ a
        · simp [hxb, hxa]; omega
        · simp [hxb, hxa]; omega
theorem meet7_same {s : Kn7} {n q : Nat} (h : (meet7 s n q).1 = false) : (meet7 s n q).2 = s := by
  unfold meet7 at h ⊢
  split at h
  · cases h
  · rename_i p hp
    split at h
    · rename_i e; simp [e]
    · rename_i e
      simp only [e, if_false]
      have h := of_decide_eq_false h
      have hf : meetB (s.ls.getD p []) (s.ls.getD q []) = s.ls.getD p [] := by
        unfold meetB
        rw [List.filter_eq_self]
        intro x hx
        exact decide_eq_true (Classical.byContradiction fun hn => h ⟨x, hx, hn⟩)
      rw [hf]
      by_cases hl : p < s.ls.length
      · have : s.ls.getD p [] = s.ls[p] := by simp [hl]
        rw [this, List.set_getElem_self]
      · rw [List.set_eq_of_length_le (by omega)]
theorem meet7_left {U : List Int} {s : Kn7} {n q : Nat} (hn : n < s.pos.length) (hU : ∀ l ∈ s.ls, ∀ x ∈ l, x ∈ U) (h : (meet7 s n q).1 = true) : left7 U (meet7 s n q).2 < left7 U s := by
  unfold meet7 at h ⊢
  split
  · rename_i hp
    have hp' : s.pos[n] = none := by simpa [hn] using hp
    rw [left7_eq, left7_eq]
    show ((s.pos.set n (some q)).map (valP7 U s.ls)).sum < _
    have := sum_set7 (v := valP7 U s.ls) (y := some q) hn
    rw [hp'] at this
    have h2 : valP7 U s.ls none = U.length + 1 := rfl
    have h3 := valP7_some (U := U) (ls := s.ls) (q := q)
    omega
  · rename_i p hp
    have hp' : s.pos[n] = some p := by simpa [hn] using hp
    split at h
    · rename_i heq; rw [hp] at heq; cases heq
    · rename_i p' hp2
      have : p' = p := by rw [hp] at hp2; exact (Option.some.inj hp2).symm
      subst this
      split at h
      · cases h
      · rename_i e
        simp only [e, if_false]
        obtain ⟨x, hx, hxq⟩ := of_decide_eq_true h
        have hl : p' < s.ls.length := by
          apply Classical.byContradiction
          intro hl
          have : s.ls.getD p' [] = [] := by simp [Nat.le_of_not_lt hl]
          rw [this] at hx; cases hx
        have hg : s.ls.getD p' [] ∈ s.ls := by
          have : s.ls.getD p' [] = s.ls[p'] := by simp [hl]
          rw [this]; exact List.getElem_mem hl
        have hsub : ∀ y ∈ meetB (s.ls.getD p' []) (s.ls.getD q []), y ∈ s.ls.getD p' [] := fun y hy => (List.mem_filter.1 hy).1
        rw [left7_eq, left7_eq]
        show (s.pos.map (valP7 U (s.ls.set p' (meetB (s.ls.getD p' []) (s.ls.getD q []))))).sum < _
        have hval : ∀ r, (s.ls.set p' (meetB (s.ls.getD p' []) (s.ls.getD q []))).getD r [] = if r = p' then meetB (s.ls.getD p' []) (s.ls.getD q []) else s.ls.getD r [] := by
          intro r
          by_cases hr : r = p'
          · subst hr; simp [hl]
          · simp [hr, List.getElem?_set_ne (Ne.symm hr)]
        refine sum_lt7 (fun o ho => ?_) (y := some p') (by rw [← hp']; exact List.getElem_mem hn) ?_
        · cases o with
          | none => exact Nat.le_refl _
          | some r =>
            by_cases e2 : r = p'
            · subst e2
              simp only [valP7, hval, if_true]
              exact filter_le7 hsub
            · simp only [valP7, hval, e2, if_false]
              exact Nat.le_refl _
        · simp only [valP7, hval, if_true]
          exact filter_lt7 hsub (hU _ hg x hx) hx fun hm => hxq (of_decide_eq_true (List.mem_filter.1 hm).2)
end Go.Proofs.Ytboicgdblbfbeaa
