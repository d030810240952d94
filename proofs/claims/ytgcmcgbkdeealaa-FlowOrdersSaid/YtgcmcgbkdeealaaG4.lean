/- Marks that grow, round by round, till nothing more is marked. -/
import Derived.Test.YtgcmcgbkdeealaaG1
namespace Go.Proofs.Ytgcmcgbkdeealaa
set_option linter.unusedVariables false
set_option linter.unusedSimpArgs false
open Go

def Sub (r0 r : List Bool) : Prop := ∀ k : Nat, r0[k]? = some true → r[k]? = some true
theorem sub_count : ∀ {r0 r : List Bool}, r0.length = r.length → Sub r0 r → r0.count true ≤ r.count true ∧ (r0.count true = r.count true → r0 = r)
  | [], [], _, _ => ⟨Nat.le_refl _, fun _ => rfl⟩
  | [], _ :: _, h, _ => by simp at h
  | _ :: _, [], h, _ => by simp at h
  | x :: r0, y :: r, hl, h => by
    obtain ⟨h1, h2⟩ := sub_count (r0 := r0) (r := r) (by simpa using hl) fun k hk => by have := h (k + 1) (by simpa using hk); simpa using this
    have h0 := h 0
    simp only [List.count_cons]
    cases x <;> cases y <;> simp at h0 ⊢
    · exact ⟨h1, h2⟩
    · exact ⟨by omega, fun e => by omega⟩
    · exact ⟨h1, h2⟩

/-- Marked is only what may be come to. -/
structure Mk (ways : List (List Int)) (a : Nat) (x : Int) (r : List Bool) : Prop where
  len : r.length = ways.length
  sound : ∀ k : Nat, r[k]? = some true → Rch ways a x k
  first : r[a]? = some true
def Cl (ways : List (List Int)) (x : Int) (r : List Bool) : Prop := ∀ b c, r[b]? = some true → E ways b c → (c : Int) ≠ x → r[c]? = some true

theorem Mk.end_ {ways : List (List Int)} {a : Nat} {x : Int} {r : List Bool} (h : Mk ways a x r) (hc : Cl ways x r) (k : Nat) : r[k]? = some true ↔ Rch ways a x k := by
  refine ⟨h.sound k, fun hr => ?_⟩
  induction hr with
  | refl _ _ => exact h.first
  | step _ e hne ih => exact hc _ _ ih e hne
theorem Mk.mark {ways : List (List Int)} {a : Nat} {x : Int} {r : List Bool} (h : Mk ways a x r) {b c : Nat} (hb : r[b]? = some true) (hE : E ways b c) (hne : (c : Int) ≠ x) : Mk ways a x (r.set c true) ∧ Sub r (r.set c true) ∧ (r.set c true)[c]? = some true := by
  have hc : c < r.length := by rw [h.len]; obtain ⟨_, _, _, h⟩ := hE; exact h
  have get : ∀ k : Nat, (r.set c true)[k]? = some true ↔ (k = c ∨ r[k]? = some true) := fun k => by
    by_cases e : k = c
    · subst e; simp [hc]
    · rw [List.getElem?_set_ne (Ne.symm e)]; simp [e]
  refine ⟨⟨by rw [List.length_set]; exact h.len, fun k hk => ?_, (get a).2 (.inr h.first)⟩, fun k hk => (get k).2 (.inr hk), (get c).2 (.inl rfl)⟩
  rcases (get k).1 hk with rfl | hk
  · exact .step (h.sound b hb) hE hne
  · exact h.sound k hk

/-- In a round that began with r0: the ways of the blocks ahead of b are gone, and j ways of b. -/
def Gone (ways : List (List Int)) (x : Int) (r0 r : List Bool) (b : Nat) (l : List Int) : Prop :=
  (∀ b' c, b' < b → r0[b']? = some true → E ways b' c → (c : Int) ≠ x → r[c]? = some true) ∧ (r0[b]? = some true → ∀ t ∈ l, 0 ≤ t → t < ways.length → t ≠ x → r[t.toNat]? = some true)
theorem Gone.mono {ways : List (List Int)} {x : Int} {r0 r r' : List Bool} {b : Nat} {l : List Int} (h : Gone ways x r0 r b l) (hs : Sub r r') : Gone ways x r0 r' b l :=
  ⟨fun b' c h1 h2 h3 h4 => hs c (h.1 b' c h1 h2 h3 h4), fun h1 t h2 h3 h4 h5 => hs _ (h.2 h1 t h2 h3 h4 h5)⟩
theorem Gone.more {ways : List (List Int)} {x : Int} {r0 r : List Bool} {b j : Nat} {l : List Int} {t : Int} (h : Gone ways x r0 r b (l.take j)) (ht : l[j]? = some t) (hr : r0[b]? = some true → 0 ≤ t → t < ways.length → t ≠ x → r[t.toNat]? = some true) : Gone ways x r0 r b (l.take (j + 1)) := by
  obtain ⟨hj, he⟩ := List.getElem?_eq_some_iff.1 ht
  refine ⟨h.1, fun h1 s hs => ?_⟩
  rw [List.take_succ_eq_append_getElem hj, he] at hs
  rcases List.mem_append.1 hs with hs | hs
  · exact h.2 h1 s hs
  · simp at hs; subst hs; exact hr h1
theorem Gone.row {ways : List (List Int)} {x : Int} {r0 r : List Bool} {b : Nat} {l : List Int} (hl : ways[b]? = some l) (h : Gone ways x r0 r b l) : Gone ways x r0 r (b + 1) [] := by
  refine ⟨fun b' c h1 h2 h3 h4 => ?_, fun _ t ht => by cases ht⟩
  by_cases e : b' = b
  · subst e
    obtain ⟨l', hl', h5, h6⟩ := h3
    rw [hl] at hl'; cases hl'
    have := h.2 h2 _ h5 (by omega) (by omega) h4
    simpa using this
  · exact h.1 b' c (by omega) h2 h3 h4
theorem set_same {l : List Bool} {c : Nat} (h : l[c]? = some true) : l.set c true = l := by
  obtain ⟨hc, he⟩ := List.getElem?_eq_some_iff.1 h
  rw [← he]; exact List.set_getElem_self hc
/-- From what is closed nothing more is marked. -/
theorem still_closed {ways : List (List Int)} {x : Int} {r0 r : List Bool} (h : Cl ways x r0 → r = r0) {b c : Nat} (hb : r[b]? = some true) (hE : E ways b c) (hne : (c : Int) ≠ x) : Cl ways x r0 → r.set c true = r0 := by
  intro hc
  have e := h hc
  subst e
  exact set_same (hc b c hb hE hne)
/-- Behind a round: closed, or one more is marked. -/
theorem round_end {ways : List (List Int)} {x : Int} {r0 r : List Bool} {i : Nat} (hl : r0.length = r.length) (hs : Sub r0 r) (hlen : r.length = ways.length) (h : Gone ways x r0 r ways.length []) (hcl : Cl ways x r0 → r = r0) (h0 : Cl ways x r0 ∨ i + 1 ≤ r0.count true) : Cl ways x r ∨ i + 2 ≤ r.count true := by
  obtain ⟨h1, h2⟩ := sub_count hl hs
  by_cases e : r0.count true = r.count true
  · refine .inl ?_
    have := h2 e
    subst this
    intro b c hb hE hne
    exact h.1 b c (by have := (List.getElem?_eq_some_iff.1 hb).1; omega) hb hE hne
  · rcases h0 with hc | hc
    · rw [hcl hc]; exact .inl hc
    · exact .inr (by omega)
theorem rounds_end {ways : List (List Int)} {x : Int} {r : List Bool} (hlen : r.length = ways.length) (h : Cl ways x r ∨ ways.length + 1 ≤ r.count true) : Cl ways x r := by
  rcases h with h | h
  · exact h
  · have := List.count_le_length (a := true) (l := r); omega
end Go.Proofs.Ytgcmcgbkdeealaa
