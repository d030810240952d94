/- As deep as can be, in words: what is seen, what is laid down. -/
import Derived.Test.YtfplmdjlgjgbgaaG2
import Derived.Test.YtfplmdjlgjgbgaaA1
namespace Go.Proofs.Ytfplmdjlgjgbgaa
set_option linter.unusedVariables false
set_option linter.unusedSimpArgs false
open Go

abbrev Vs := List Bool × List Int
/-- Edges gone one by one, from one state to another one. -/
inductive Vl (n : Nat) (es : Nat → List Int) : List Int → Vs → Vs → Prop
  | nil (st : Vs) : Vl n es [] st st
  | skip {t : Int} {l : List Int} {st st' : Vs} : ¬ (vld n t = true ∧ nth st.1 t.toNat = false) → Vl n es l st st' → Vl n es (t :: l) st st'
  | go {t : Int} {l : List Int} {st s1 st' : Vs} : vld n t = true → nth st.1 t.toNat = false → Vl n es (es t.toNat) (st.1.set t.toNat true, st.2) s1 → Vl n es l (s1.1, s1.2 ++ [t]) st' → Vl n es (t :: l) st st'

theorem Vl.det {n : Nat} {es : Nat → List Int} {l : List Int} {st s1 s2 : Vs} (h : Vl n es l st s1) (k : Vl n es l st s2) : s1 = s2 := by
  induction h generalizing s2 with
  | nil st => cases k; rfl
  | skip hn _ ih =>
    cases k with
    | skip _ k => exact ih k
    | go h1 h2 _ _ => exact absurd ⟨h1, h2⟩ hn
  | go h1 h2 _ _ ih1 ih2 =>
    cases k with
    | skip hn _ => exact absurd ⟨h1, h2⟩ hn
    | go _ _ k1 k2 =>
      obtain rfl := ih1 k1
      exact ih2 k2
/-- What isn't there may be left out. -/
theorem Vl.filter {n : Nat} {es : Nat → List Int} {l : List Int} {st s1 : Vs} (h : Vl n es l st s1) : Vl n (fun b => (es b).filter (vld n)) (l.filter (vld n)) st s1 := by
  induction h with
  | nil st => exact .nil st
  | @skip t l st st' hn _ ih =>
    cases hv : vld n t with
    | true => rw [List.filter_cons_of_pos hv]; exact .skip hn ih
    | false => rw [List.filter_cons_of_neg (by simp [hv])]; exact ih
  | @go t l st s1 st' h1 h2 _ _ ih1 ih2 =>
    rw [List.filter_cons_of_pos h1]
    exact .go h1 h2 ih1 ih2
theorem count_true_set {l : List Bool} : ∀ {i : Nat}, i < l.length → nth l i = false → (l.set i true).count true = l.count true + 1 := by
  induction l with
  | nil => intro i h; simp at h
  | cons x l ih =>
    intro i h h2
    cases i with
    | zero =>
      have : x = false := h2
      subst this; simp
    | succ i =>
      have := ih (i := i) (by simpa using h) h2
      simp only [List.set_cons_succ, List.count_cons]
      omega
/-- How much grows, and what stays. -/
theorem Vl.grow {n : Nat} {es : Nat → List Int} {l : List Int} {st s1 : Vs} (h : Vl n es l st s1) (hl : st.1.length = n) : s1.1.length = n ∧ s1.2.length + st.1.count true = st.2.length + s1.1.count true ∧ ∀ b, nth st.1 b = true → nth s1.1 b = true := by
  induction h with
  | nil st => exact ⟨hl, rfl, fun _ h => h⟩
  | skip _ _ ih => exact ih hl
  | @go t l st s1 st' h1 h2 _ _ ih1 ih2 =>
    have ht : t.toNat < n := by unfold vld at h1; have := of_decide_eq_true h1; omega
    obtain ⟨a1, a2, a3⟩ := ih1 (by simpa using hl)
    obtain ⟨b1, b2, b3⟩ := ih2 a1
    have hc := count_true_set (l := st.1) (i := t.toNat) (by omega) h2
    simp only [List.length_append, List.length_cons, List.length_nil] at b2
    simp only at a2
    refine ⟨b1, by omega, fun b hb => b3 b (a3 b ?_)⟩
    show nth (st.1.set t.toNat true) b = true
    rw [nth_set (by omega)]
    split
    · rfl
    · exact hb
theorem Vl.longer {n : Nat} {es : Nat → List Int} {l : List Int} {st s1 : Vs} (h : Vl n es l st s1) : st.2.length ≤ s1.2.length := by
  induction h with
  | nil st => exact Nat.le_refl _
  | skip _ _ ih => exact ih
  | go h1 h2 _ _ ih1 ih2 =>
    simp only [List.length_append, List.length_cons, List.length_nil] at ih1 ih2
    omega
theorem Vl.snoc {n : Nat} {es : Nat → List Int} {l : List Int} {st s1 s2 : Vs} {l2 : List Int} (h : Vl n es l st s1) (k : Vl n es l2 s1 s2) : Vl n es (l ++ l2) st s2 := by
  induction h with
  | nil st => exact k
  | skip hn _ ih => exact .skip hn (ih k)
  | go h1 h2 h3 _ _ ih2 => exact .go h1 h2 h3 (ih2 k)

/-! the same by a stack -/
def Rs (n : Nat) (es : Nat → List Int) (next : List Int) : List Int → Vs → Vs → Prop
  | [], st, fin => fin = st
  | b :: rest, st, fin => ∃ s1, Vl n es ((es b.toNat).drop (nth next b.toNat).toNat) st s1 ∧ Rs n es next rest (s1.1, s1.2 ++ [b]) fin
theorem Rs.congr {n : Nat} {es : Nat → List Int} {next next' : List Int} : ∀ {l : List Int} {st fin : Vs}, (∀ b ∈ l, nth next' b.toNat = nth next b.toNat) → Rs n es next l st fin → Rs n es next' l st fin
  | [], _, _, _, h => h
  | b :: l, st, fin, he, ⟨s1, h1, h2⟩ => ⟨s1, by rw [he b (by simp)]; exact h1, Rs.congr (fun c hc => he c (by simp [hc])) h2⟩
theorem sum_set {l : List Nat} : ∀ {i : Nat} {x : Nat}, i < l.length → (l.set i x).sum + l.getD i 0 = l.sum + x := by
  induction l with
  | nil => intro i x h; simp at h
  | cons y l ih =>
    intro i x h
    cases i with
    | zero => simp; omega
    | succ i =>
      have := ih (i := i) (x := x) (by simpa using h)
      simp only [List.set_cons_succ, List.sum_cons, List.getD_cons_succ]
      omega
end Go.Proofs.Ytfplmdjlgjgbgaa
