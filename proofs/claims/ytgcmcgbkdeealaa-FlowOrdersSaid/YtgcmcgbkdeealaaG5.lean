/- Loops: from where a way back is come to, without the top. -/
import Derived.Test.YtgcmcgbkdeealaaG3
namespace Go.Proofs.Ytgcmcgbkdeealaa
set_option linter.unusedVariables false
set_option linter.unusedSimpArgs false
open Go

/-- k is in the loop of this top that b goes back from. -/
def InL (ways : List (List Int)) (top b k : Nat) : Prop := k = top ∨ (Rch ways 0 (-1) k ∧ Rch ways k (top : Int) b)

/-- Under way, backwards. -/
structure Lp (ways : List (List Int)) (top b : Nat) (r : List Bool) (todo : List Nat) : Prop where
  len : r.length = ways.length
  sound : ∀ k : Nat, r[k]? = some true → InL ways top b k
  top_ : r[top]? = some true
  todoIn : ∀ t ∈ todo, t < ways.length ∧ (Rch ways 0 (-1) t → t = top ∨ Rch ways t (top : Int) b)
  start : r[b]? = some true ∨ b ∈ todo ∨ ¬ Rch ways 0 (-1) b
  closed : ∀ k : Nat, r[k]? = some true → k ≠ top → ∀ p, E ways p k → r[p]? = some true ∨ p ∈ todo ∨ ¬ Rch ways 0 (-1) p

theorem Rch.back {ways : List (List Int)} {p k b : Nat} {x : Int} (hE : E ways p k) (hp : (p : Int) ≠ x) (hpl : p < ways.length) (h : Rch ways k x b) : Rch ways p x b :=
  Rch.trans (.step (.refl hpl hp) hE h.first.ne) h

theorem Lp.end_ {ways : List (List Int)} {top b : Nat} {r : List Bool} (h : Lp ways top b r []) {k : Nat} : r[k]? = some true ↔ InL ways top b k := by
  refine ⟨h.sound k, ?_⟩
  rintro (rfl | ⟨h1, h2⟩)
  · exact h.top_
  · have key : ∀ c, Rch ways k (top : Int) c → c = c ∧ (Rch ways c (top : Int) b → Rch ways 0 (-1) c → r[c]? = some true → r[k]? = some true) := by
      intro c hc
      induction hc with
      | refl _ _ => exact ⟨rfl, fun _ _ h => h⟩
      | @step p c hp hE hne ih =>
        refine ⟨rfl, fun hcb hrc hr => ?_⟩
        have hpr : Rch ways 0 (-1) p := Rch.trans h1 hp.any
        have hpb : Rch ways p (top : Int) b := Rch.back hE hp.ne hp.lt hcb
        rcases h.closed c hr (by omega) p hE with h3 | h3 | h3
        · exact ih.2 hpb hpr h3
        · cases h3
        · exact absurd hpr h3
    have hb : Rch ways 0 (-1) b := Rch.trans h1 h2.any
    rcases h.start with h3 | h3 | h3
    · exact (key b h2).2 (.refl h2.lt h2.ne) hb h3
    · cases h3
    · exact absurd hb h3
theorem Lp.begin {ways : List (List Int)} {top b : Nat} {r : List Bool} (hr : r.length = ways.length) (htop : top < ways.length) (hb : b < ways.length) (h0 : ∀ k : Nat, r[k]? = some true ↔ k = top) : Lp ways top b r [b] := by
  refine ⟨hr, fun k hk => .inl ((h0 k).1 hk), (h0 top).2 rfl, fun t ht => ?_, .inr (.inl (by simp)), fun k hk hkt => absurd ((h0 k).1 hk) hkt⟩
  simp at ht
  subst ht
  refine ⟨hb, fun _ => ?_⟩
  by_cases e : t = top
  · exact .inl e
  · exact .inr (.refl hb (by omega))
theorem Lp.skip {ways : List (List Int)} {top b t : Nat} {r : List Bool} {todo : List Nat} (h : Lp ways top b r (todo ++ [t])) (ht : r[t]? = some true ∨ ¬ Rch ways 0 (-1) t) : Lp ways top b r todo := by
  have drop : ∀ p : Nat, (r[p]? = some true ∨ p ∈ todo ++ [t] ∨ ¬ Rch ways 0 (-1) p) → (r[p]? = some true ∨ p ∈ todo ∨ ¬ Rch ways 0 (-1) p) := by
    rintro p (h1 | h1 | h1)
    · exact .inl h1
    · rcases List.mem_append.1 h1 with h2 | h2
      · exact .inr (.inl h2)
      · simp at h2; subst h2
        rcases ht with h3 | h3
        · exact .inl h3
        · exact .inr (.inr h3)
    · exact .inr (.inr h1)
  exact ⟨h.len, h.sound, h.top_, fun q hq => h.todoIn q (by simp [hq]), drop b h.start, fun k hk hkt p hE => drop p (h.closed k hk hkt p hE)⟩
theorem Lp.take {ways : List (List Int)} {top b t : Nat} {r : List Bool} {todo ins : List Nat} (h : Lp ways top b r (todo ++ [t])) (hrt : r[t]? = some false) (ht : Rch ways 0 (-1) t) (hins : ∀ p, p ∈ ins ↔ E ways p t) : Lp ways top b (r.set t true) (todo ++ ins) := by
  have hne : t ≠ top := fun e => by subst e; rw [h.top_] at hrt; cases hrt
  have hin := ((h.todoIn t (by simp)).2 ht).resolve_left hne
  have lift : ∀ p : Nat, (r[p]? = some true ∨ p ∈ todo ++ [t] ∨ ¬ Rch ways 0 (-1) p) → ((r.set t true)[p]? = some true ∨ p ∈ todo ++ ins ∨ ¬ Rch ways 0 (-1) p) := by
    rintro p (h1 | h1 | h1)
    · exact .inl ((set_get hrt p).2 (.inr h1))
    · rcases List.mem_append.1 h1 with h2 | h2
      · exact .inr (.inl (by simp [h2]))
      · simp at h2; exact .inl ((set_get hrt p).2 (.inl h2))
    · exact .inr (.inr h1)
  refine ⟨by rw [List.length_set]; exact h.len, fun k hk => ?_, (set_get hrt top).2 (.inr h.top_), fun q hq => ?_, lift b h.start, fun k hk hkt p hE => ?_⟩
  · rcases (set_get hrt k).1 hk with rfl | hk
    · exact .inr ⟨ht, hin⟩
    · exact h.sound k hk
  · rcases List.mem_append.1 hq with hq | hq
    · exact h.todoIn q (by simp [hq])
    · have hE := (hins q).1 hq
      have hql : q < ways.length := by obtain ⟨l, hl, _⟩ := hE; exact (List.getElem?_eq_some_iff.1 hl).1
      refine ⟨hql, fun _ => ?_⟩
      by_cases e : q = top
      · exact .inl e
      · exact .inr (Rch.back hE (by omega) hql hin)
  · rcases (set_get hrt k).1 hk with rfl | hk
    · exact .inr (.inl (List.mem_append_right _ ((hins p).2 hE)))
    · exact lift p (h.closed k hk hkt p hE)
end Go.Proofs.Ytgcmcgbkdeealaa
