/- Layer 7: many maps in one piece. -/
import Derived.Test.YtboicgdblbfbeaaS4
namespace Go.Proofs.Ytboicgdblbfbeaa
set_option linter.unusedVariables false
set_option linter.unusedSimpArgs false
open Go Go.RowKit

/-- A map that lies in block id: at most n entries, the set l. -/
structure Mp7 where
  id : Nat
  n : Nat
  l : List Int
noncomputable def Mp7.hp (m : Mp7) : HP := mp EB 3 m.id m.n (setF m.l)
noncomputable def bag7 (ms : List Mp7) : HP := star (ms.map Mp7.hp)
theorem map_eraseIdx7 {α β : Type} (f : α → β) : ∀ (l : List α) (j : Nat), (l.map f).eraseIdx j = (l.eraseIdx j).map f
  | [], _ => by simp
  | x :: l, 0 => rfl
  | x :: l, j + 1 => by simp only [List.map_cons, List.eraseIdx_cons_succ, map_eraseIdx7 f l j]
section
variable {w0 : World} {f0 : FP} {L : List HP} {ms : List Mp7} {j : Nat}
theorem PSub.bagNil : PSub w0 f0 L (bag7 [] :: L) := fun w H => H.star0.head
theorem PSub.bagOut (hj : j < ms.length) : PSub w0 f0 (bag7 ms :: L) (mp EB 3 ms[j].id ms[j].n (setF ms[j].l) :: bag7 (ms.eraseIdx j) :: L) := by
  intro w H
  have := H.pull 0 (Ls := ms.map Mp7.hp) rfl j (R := ms[j].hp) (by simp [hj])
  rw [map_eraseIdx7] at this
  exact this.head
theorem PSub.bagIn (m : Mp7) (hj : j < ms.length) : PSub w0 f0 (mp EB 3 m.id m.n (setF m.l) :: bag7 (ms.eraseIdx j) :: L) (bag7 (ms.set j m) :: L) := by
  intro w H
  have h1 := H.last
  have := h1.push (R := m.hp) 0 (Ls := ms.map Mp7.hp) j (by rw [map_eraseIdx7]; rfl) (by simpa using hj)
  rw [← List.map_set] at this
  exact this
theorem PSub.bagNew (m : Mp7) : PSub w0 f0 (mp EB 3 m.id m.n (setF m.l) :: bag7 ms :: L) (bag7 (ms ++ [m]) :: L) := by
  intro w H
  have h1 := H.last
  have := h1.more (R := m.hp) 0 (Ls := ms.map Mp7.hp) rfl
  have e : star (ms.map Mp7.hp ++ [m.hp]) = bag7 (ms ++ [m]) := by unfold bag7; rw [List.map_append]; rfl
  rw [e] at this
  exact this
/-- Two maps lie apart. -/
theorem mp_ne {a b na nb : Nat} {la lb : List Int} {w : World} (H : St w0 f0 (mp EB 3 a na (setF la) :: mp EB 3 b nb (setF lb) :: L) w) : a ≠ b := by
  obtain ⟨f, ⟨f1, f2, e1, e2, h1, h2⟩, _⟩ := H.sf
  obtain ⟨g1, g2, k1, k2, h3, h4⟩ := h2
  intro e
  subst e
  exact e2 a ((h1.1 a).2 rfl) ((k1 a).2 (.inl ((h3.1 a).2 rfl)))
end

/-! what known computes, plainly -/
/-- Where each block's set lies among the sets (none: nil), and the sets. -/
structure Kn7 where
  pos : List (Option Nat)
  ls : List (List Int)
def meet7 (s : Kn7) (n q : Nat) : Bool × Kn7 :=
  match s.pos[n]?.join with
  | none => (true, { s with pos := s.pos.set n (some q) })
  | some p => if p = q then (false, s) else (decide (∃ k ∈ s.ls.getD p [], k ∉ s.ls.getD q []), { s with ls := s.ls.set p (meetB (s.ls.getD p []) (s.ls.getD q [])) })
end Go.Proofs.Ytboicgdblbfbeaa
