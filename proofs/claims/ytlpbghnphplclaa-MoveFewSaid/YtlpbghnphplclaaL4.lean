/- The plain law of MoveFew: how the law finds rings. -/
import Derived.Test.YtlpbghnphplclaaL2
namespace Go.Proofs.Ytlpbghnphplclaa
set_option linter.unusedVariables false
set_option linter.unusedSimpArgs false
open Go

def nself (m : Mv) : Bool := !(m.to == m.fr)
def Trail (f : Int → Option Int) (p : Int) (i : Nat) (ring : List Int) (at_ : Int) : Prop :=
  ring.length = i + 1 ∧ (∀ (j : Nat) x, ring[j]? = some x → itf f j p = some x) ∧ itf f (i + 1) p = some at_ ∧ ∀ (j : Nat) x, 0 < j → ring[j]? = some x → x ≠ p

theorem Trail.start {f : Int → Option Int} {p q : Int} (h : f p = some q) : Trail f p 0 [p] q := by
  refine ⟨rfl, fun j x hj => ?_, by simp [itf, h], fun j x hj hx => ?_⟩
  · cases j with
    | zero => simp at hj; subst hj; rfl
    | succ j => simp at hj
  · cases j with
    | zero => omega
    | succ j => simp at hx
theorem Trail.next {f : Int → Option Int} {p a b : Int} {i : Nat} {ring : List Int} (h : Trail f p i ring a) (ha : a ≠ p) (hb : f a = some b) : Trail f p (i + 1) (ring ++ [a]) b := by
  obtain ⟨h1, h2, h3, h4⟩ := h
  have get : ∀ (j : Nat) x, (ring ++ [a])[j]? = some x → ring[j]? = some x ∨ (j = i + 1 ∧ x = a) := by
    intro j x hj
    rcases Nat.lt_or_ge j ring.length with hl | hl
    · rw [List.getElem?_append_left hl] at hj; exact .inl hj
    · rw [List.getElem?_append_right hl] at hj
      have := (List.getElem?_eq_some_iff.1 hj).1
      simp at this
      have : j = i + 1 := by omega
      subst this
      rw [h1, Nat.sub_self] at hj
      simp at hj
      exact .inr ⟨rfl, hj.symm⟩
  refine ⟨by simp [h1], fun j x hj => ?_, ?_, fun j x hj hx => ?_⟩
  · rcases get j x hj with h | ⟨rfl, rfl⟩
    · exact h2 j x h
    · exact h3
  · rw [itf_succ, h3]; exact hb
  · rcases get j x hx with h | ⟨_, rfl⟩
    · exact h4 j x hj h
    · exact ha

theorem Trail.ring {f : Int → Option Int} {p : Int} {i : Nat} {ring : List Int} (h : Trail f p i ring p) : onC f p ∧ ∀ q, leads f p q ↔ q ∈ ring := by
  obtain ⟨h1, h2, h3, _⟩ := h
  refine ⟨⟨i, h3⟩, fun q => ⟨fun ⟨k, hk⟩ => ?_, fun hq => ?_⟩⟩
  · have e : itf f (k % (i + 1)) p = some q := by
      have hd := Nat.div_add_mod k (i + 1)
      rw [← hd, show (i + 1) * (k / (i + 1)) = k / (i + 1) * (i + 1) from Nat.mul_comm _ _, itf_add, onC_mul h3] at hk
      exact hk
    have hlt : k % (i + 1) < ring.length := by rw [h1]; exact Nat.mod_lt _ (by omega)
    have := h2 _ _ (List.getElem?_eq_getElem hlt)
    rw [this] at e
    cases e
    exact List.getElem_mem hlt
  · obtain ⟨j, hj⟩ := List.getElem?_of_mem hq
    exact ⟨j, h2 j q hj⟩
theorem Trail.stuck {f : Int → Option Int} {p a : Int} {i : Nat} {ring : List Int} (h : Trail f p i ring a) (ha : f a = none) : ¬ onC f p := by
  obtain ⟨_, _, h3, _⟩ := h
  rintro ⟨k, hk⟩
  have h1 := onC_mul hk (i + 2)
  rw [show (i + 2) * (k + 1) = (i + 1) + 1 + (i + 2) * k by rw [Nat.mul_succ]; omega, itf_add, itf_succ, h3] at h1
  have : (some a : Option Int).bind f = none := ha
  rw [this] at h1
  cases h1
theorem onC_short {f : Int → Option Int} {p : Int} {S : List Int} (hS : ∀ x y, f x = some y → x ∈ S) (h : onC f p) : ∃ k, k < S.length ∧ itf f (k + 1) p = some p := by
  obtain ⟨K, hK⟩ := h
  have all : ∀ k, ∃ x ∈ S, itf f k p = some x := by
    intro k
    have h1 := onC_mul hK (k + 1)
    rw [show (k + 1) * (K + 1) = k + (1 + ((k + 1) * K)) by rw [Nat.mul_succ]; omega, itf_add] at h1
    cases h2 : itf f k p with
    | none => rw [h2] at h1; cases h1
    | some x =>
      rw [h2] at h1
      have h1 : itf f (1 + (k + 1) * K) x = some p := h1
      rw [Nat.add_comm] at h1
      simp only [itf] at h1
      cases h3 : f x with
      | none => rw [h3] at h1; cases h1
      | some y => exact ⟨x, hS x y h3, rfl⟩
  obtain ⟨w, hw⟩ := Classical.skolem.1 all
  apply Classical.byContradiction
  intro hn
  have hne : ∀ i j, i < j → j ≤ S.length → w i ≠ w j := by
    intro i j hij hj e
    have hl : leads f (w i) p := leads_back ⟨K, hK⟩ ⟨i, (hw i).2⟩
    obtain ⟨t, ht⟩ := hl
    have e1 : itf f (i + t) p = some p := by rw [itf_add, (hw i).2]; exact ht
    have e2 : itf f (j + t) p = some p := by rw [itf_add, (hw j).2, ← e]; exact ht
    have e3 : itf f (j - i) p = some p := by
      rw [show j + t = (i + t) + (j - i) by omega, itf_add, e1] at e2
      exact e2
    exact hn ⟨j - i - 1, by omega, by rw [show j - i - 1 + 1 = j - i by omega]; exact e3⟩
  have hnd : ((List.range (S.length + 1)).map w).Nodup := by
    rw [List.Nodup, List.pairwise_map]
    exact List.pairwise_lt_range.imp_of_mem fun {a b} ha hb h => hne a b h (by have := List.mem_range.1 hb; omega)
  have := nodup_le _ S hnd fun x hx => by
    obtain ⟨i, _, rfl⟩ := List.mem_map.1 hx
    exact (hw i).1
  simp at this
  omega
theorem Trail.long {f : Int → Option Int} {p a : Int} {i : Nat} {ring : List Int} {S : List Int} (hS : ∀ x y, f x = some y → x ∈ S) (h : Trail f p i ring a) (hi : S.length ≤ i) : ¬ onC f p := by
  intro hc
  obtain ⟨k, hk, hk2⟩ := onC_short hS hc
  obtain ⟨h1, h2, h3, h4⟩ := h
  have hlt : k + 1 < ring.length := by omega
  have := h2 _ _ (List.getElem?_eq_getElem hlt)
  rw [hk2] at this
  exact h4 (k + 1) _ (by omega) (List.getElem?_eq_getElem hlt) (Option.some.inj this).symm

theorem fromF_app {l : List Mv} {m : Mv} (h : ∀ x ∈ l, x.to ≠ m.to) : fromF (l ++ [m]) = upd (fromF l) m.to (some m.fr) := by
  funext k
  unfold fromF upd
  rw [List.find?_append]
  by_cases hk : k = m.to
  · subst hk
    rw [if_pos rfl]
    have : l.find? (·.to == m.to) = none := by rw [List.find?_eq_none]; intro x hx; simp; exact h x hx
    rw [this]; simp
  · rw [if_neg hk]
    have : [m].find? (·.to == k) = none := by simp; exact fun e => hk e.symm
    rw [this, Option.or_none]

/-- Who has been seen: those on the rings of who came before. -/
def SeenBy (f : Int → Option Int) (e : List Int) (F : Int → Option Bool) : Prop := ∀ r, (F r).getD false = true ↔ ∃ q ∈ e, onC f q ∧ leads f q r

theorem SeenBy.skip {f : Int → Option Int} {e : List Int} {F : Int → Option Bool} {p : Int} (h : SeenBy f e F) (hp : onC f p → (F p).getD false = true) : SeenBy f (p :: e) F := by
  intro r
  rw [h r]
  constructor
  · rintro ⟨q, hq, h1, h2⟩; exact ⟨q, by simp [hq], h1, h2⟩
  · rintro ⟨q, hq, h1, h2⟩
    rcases List.mem_cons.1 hq with rfl | hq
    · obtain ⟨q', h3, h4, h5⟩ := (h q).1 (hp h1)
      exact ⟨q', h3, h4, leads_trans h5 h2⟩
    · exact ⟨q, hq, h1, h2⟩
theorem SeenBy.mark {f : Int → Option Int} {e : List Int} {F F' : Int → Option Bool} {p : Int} (h : SeenBy f e F) (hp : onC f p) (hF : ∀ r, (F' r).getD false = true ↔ ((F r).getD false = true ∨ leads f p r)) : SeenBy f (p :: e) F' := by
  intro r
  rw [hF, h r]
  constructor
  · rintro (⟨q, hq, h1, h2⟩ | h1)
    · exact ⟨q, by simp [hq], h1, h2⟩
    · exact ⟨p, by simp, hp, h1⟩
  · rintro ⟨q, hq, h1, h2⟩
    rcases List.mem_cons.1 hq with rfl | hq
    · exact .inr h2
    · exact .inl ⟨q, hq, h1, h2⟩

theorem cyc_one {f : Int → Option Int} {e l : List Int} {p : Int} {F : Int → Option Bool} (h : SeenBy f e F) (hp : onC f p) (hs : (F p).getD false = false) : cyc f e (p :: l) = 1 + cyc f (p :: e) l := by
  conv => lhs; unfold cyc
  rw [if_pos]
  refine ⟨hp, fun ⟨q, hq, h1, h2⟩ => ?_⟩
  have := (h p).2 ⟨q, hq, h1, h2⟩
  rw [hs] at this; cases this
theorem cyc_zero {f : Int → Option Int} {e l : List Int} {p : Int} {F : Int → Option Bool} (h : SeenBy f e F) (hp : onC f p → (F p).getD false = true) : cyc f e (p :: l) = cyc f (p :: e) l := by
  conv => lhs; unfold cyc
  rw [if_neg, Nat.zero_add]
  rintro ⟨h1, h2⟩
  exact h2 ((h p).1 (hp h1))

theorem few_law (xs : List Mv) (free : Int) :
    (lineOf (onceOf xs free) free).length = ((onceOf xs free).filter nself).length + cyc (fromF ((onceOf xs free).filter nself)) [] (((onceOf xs free).filter nself).map Mv.to) ∧
    (lineOf (onceOf xs free) free).countP (·.to == free) = cyc (fromF ((onceOf xs free).filter nself)) [] (((onceOf xs free).filter nself).map Mv.to) := by
  obtain ⟨h1, h2⟩ := once_inv free xs
  generalize onceOf xs free = ms at *
  have e : lineOf ms free = lineRec free (2 * ms.length + 1) (ms.filter nself) := by
    unfold lineOf; rw [lineGo_rec]; rfl
  rw [e]
  have hle := List.length_filter_le nself ms
  exact line_counts free _ _ (by have := lineMu_le free (ms.filter nself); omega) (nodup_filter_to _ h1) fun m hm => (h2 m (List.mem_filter.1 hm).1).2.1
end Go.Proofs.Ytlpbghnphplclaa
