/- Blocks and ways: what can be come to, in plain words. -/
import Derived.Test.YtfplmdjlgjgbgaaK1
namespace Go.Proofs.Ytfplmdjlgjgbgaa
set_option linter.unusedVariables false
set_option linter.unusedSimpArgs false
open Go

/-- There is a way from b to c. -/
def E (ways : List (List Int)) (b c : Nat) : Prop := ∃ l, ways[b]? = some l ∧ (c : Int) ∈ l ∧ c < ways.length
/-- From a, never by way of x. -/
inductive Rch (ways : List (List Int)) (a : Nat) (x : Int) : Nat → Prop
  | refl : a < ways.length → (a : Int) ≠ x → Rch ways a x a
  | step {b c : Nat} : Rch ways a x b → E ways b c → (c : Int) ≠ x → Rch ways a x c

theorem Rch.lt {ways : List (List Int)} {a : Nat} {x : Int} {b : Nat} (h : Rch ways a x b) : b < ways.length := by
  cases h with
  | refl h _ => exact h
  | step _ e _ => obtain ⟨_, _, _, h⟩ := e; exact h
theorem Rch.trans {ways : List (List Int)} {a b c : Nat} {x : Int} (h : Rch ways a x b) (k : Rch ways b x c) : Rch ways a x c := by
  induction k with
  | refl _ _ => exact h
  | step _ e n ih => exact .step ih e n
theorem Rch.first {ways : List (List Int)} {a b : Nat} {x : Int} (h : Rch ways a x b) : Rch ways a x a := by
  induction h with
  | refl h1 h2 => exact .refl h1 h2
  | step _ _ _ ih => exact ih
theorem Rch.ne {ways : List (List Int)} {a b : Nat} {x : Int} (h : Rch ways a x b) : (b : Int) ≠ x := by
  cases h with
  | refl _ h => exact h
  | step _ _ h => exact h
/-- What may be gone by way of one place less may be gone. -/
theorem Rch.any {ways : List (List Int)} {a b : Nat} {x : Int} (h : Rch ways a x b) : Rch ways a (-1) b := by
  induction h with
  | refl h1 _ => exact .refl h1 (by omega)
  | step _ e _ ih => exact .step ih e (by omega)

theorem count_set {l : List Bool} : ∀ {i : Nat}, l[i]? = some false → (l.set i true).count false + 1 = l.count false := by
  induction l with
  | nil => intro i h; simp at h
  | cons x l ih =>
    intro i h
    cases i with
    | zero => simp at h; subst h; simp
    | succ i =>
      have := ih (i := i) (by simpa using h)
      simp only [List.set_cons_succ, List.count_cons]
      omega
theorem set_get {l : List Bool} {i : Nat} (h : l[i]? = some false) (j : Nat) : (l.set i true)[j]? = some true ↔ (j = i ∨ l[j]? = some true) := by
  have hi := (List.getElem?_eq_some_iff.1 h).1
  by_cases e : j = i
  · subst e; simp [hi]
  · rw [List.getElem?_set_ne (Ne.symm e)]; simp [e]

/-- Under way: who is marked; whose ways are still to be gone. -/
structure Bfs (ways : List (List Int)) (r : List Bool) (todo : List Nat) (done : Nat → Prop) : Prop where
  len : r.length = ways.length
  sound : ∀ k, r[k]? = some true → Rch ways 0 (-1) k
  first : r[0]? = some true
  inTodo : ∀ t ∈ todo, r[t]? = some true
  closed : ∀ b, r[b]? = some true → b ∉ todo → done b → ∀ c, E ways b c → r[c]? = some true

theorem Bfs.end_ {ways : List (List Int)} {r : List Bool} (h : Bfs ways r [] fun _ => True) (k : Nat) : r[k]? = some true ↔ Rch ways 0 (-1) k := by
  refine ⟨h.sound k, fun hr => ?_⟩
  induction hr with
  | refl _ _ => exact h.first
  | step _ e _ ih => exact h.closed _ ih (by simp) trivial _ e

theorem Bfs.mark {ways : List (List Int)} {r : List Bool} {todo : List Nat} {b c : Nat} (h : Bfs ways r todo fun x => x ≠ b) (hb : r[b]? = some true) (he : E ways b c) (hc : r[c]? = some false) : Bfs ways (r.set c true) (todo ++ [c]) fun x => x ≠ b := by
  refine ⟨by rw [List.length_set]; exact h.len, fun k hk => ?_, (set_get hc 0).2 (.inr h.first), fun t ht => ?_, fun x hx hnt hd d hed => ?_⟩
  · rcases (set_get hc k).1 hk with rfl | hk
    · exact .step (h.sound b hb) he (by omega)
    · exact h.sound k hk
  · rcases List.mem_append.1 ht with ht | ht
    · exact (set_get hc t).2 (.inr (h.inTodo t ht))
    · simp at ht; exact (set_get hc t).2 (.inl ht)
  · rcases (set_get hc x).1 hx with rfl | hx
    · simp at hnt
    · exact (set_get hc d).2 (.inr (h.closed x hx (fun e => hnt (List.mem_append_left _ e)) hd d hed))
theorem Bfs.over {ways : List (List Int)} {r : List Bool} {todo : List Nat} {b : Nat} (h : Bfs ways r todo fun x => x ≠ b) (hb : ∀ c, E ways b c → r[c]? = some true) : Bfs ways r todo fun _ => True :=
  ⟨h.len, h.sound, h.first, h.inTodo, fun x hx hnt _ c hc => by
    by_cases e : x = b
    · subst e; exact hb c hc
    · exact h.closed x hx hnt e c hc⟩
theorem Bfs.pop {ways : List (List Int)} {r : List Bool} {todo : List Nat} {b : Nat} (h : Bfs ways r (b :: todo) fun _ => True) : Bfs ways r todo fun x => x ≠ b :=
  ⟨h.len, h.sound, h.first, fun t ht => h.inTodo t (by simp [ht]), fun x hx hnt hd c hc => h.closed x hx (by simp [hnt]; exact hd) trivial c hc⟩
theorem Bfs.begin {ways : List (List Int)} (hn : 0 < ways.length) : Bfs ways ((List.replicate ways.length false).set 0 true) [0] fun _ => True := by
  have h0 : (List.replicate ways.length false)[0]? = some false := by simp [hn]
  refine ⟨by simp, fun k hk => ?_, (set_get h0 0).2 (.inl rfl), fun t ht => ?_, fun b hb hnt _ => ?_⟩
  · rcases (set_get h0 k).1 hk with rfl | hk
    · exact .refl hn (by omega)
    · rw [List.getElem?_replicate] at hk; split at hk <;> cases hk
  · simp at ht; subst ht; exact (set_get h0 0).2 (.inl rfl)
  · rcases (set_get h0 b).1 hb with rfl | hk
    · simp at hnt
    · rw [List.getElem?_replicate] at hk; split at hk <;> cases hk
/-- Where these ways go is marked. -/
def Marked (n : Nat) (r : List Bool) (l : List Int) : Prop := ∀ x ∈ l, 0 ≤ x → x < n → r[x.toNat]? = some true
theorem Marked.succ {n : Nat} {r : List Bool} {l : List Int} {j : Nat} {x : Int} (h : Marked n r (l.take j)) (hx : l[j]? = some x) (hr : 0 ≤ x → x < n → r[x.toNat]? = some true) : Marked n r (l.take (j + 1)) := by
  obtain ⟨hj, he⟩ := List.getElem?_eq_some_iff.1 hx
  intro y hy
  rw [List.take_succ_eq_append_getElem hj, he] at hy
  rcases List.mem_append.1 hy with hy | hy
  · exact h y hy
  · simp at hy; subst hy; exact hr
theorem Marked.set {n : Nat} {r : List Bool} {l : List Int} {i : Nat} (h : Marked n r l) (hi : r[i]? = some false) : Marked n (r.set i true) l := fun x hx h1 h2 => (set_get hi _).2 (.inr (h x hx h1 h2))
end Go.Proofs.Ytfplmdjlgjgbgaa
