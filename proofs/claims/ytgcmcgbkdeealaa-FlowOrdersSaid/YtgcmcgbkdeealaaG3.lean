/- Which blocks are on each way: what is struck, what stays. -/
import Derived.Test.YtgcmcgbkdeealaaG2
import Derived.Test.YtgcmcgbkdeealaaKn
namespace Go.Proofs.Ytgcmcgbkdeealaa
set_option linter.unusedVariables false
set_option linter.unusedSimpArgs false
open Go

/-- k is on each way to b. -/
def Dom (ways : List (List Int)) (b k : Nat) : Prop := Rch ways 0 (-1) b ∧ ¬ Rch ways 0 (k : Int) b

/-- A square of bools. -/
def Sq (n : Nat) (hs : List (Hd Bool)) : Prop := hs.length = n ∧ ∀ (q : Nat) x, hs[q]? = some x → x.2.length = n
def M (hs : List (Hd Bool)) (b k : Nat) : Prop := ∃ x, hs[b]? = some x ∧ x.2[k]? = some true
def cnt (hs : List (Hd Bool)) : Nat := (hs.map fun x => x.2.count true).sum

theorem Sq.at {n : Nat} {hs : List (Hd Bool)} (h : Sq n hs) {b k : Nat} (hb : b < n) (hk : k < n) : ∃ x v, hs[b]? = some x ∧ x.2[k]? = some v := by
  have h1 : hs[b]? = some (hs[b]'(by rw [h.1]; exact hb)) := List.getElem?_eq_getElem _
  exact ⟨_, _, h1, List.getElem?_eq_getElem (by rw [h.2 b _ h1]; exact hk)⟩
theorem M.iff {hs : List (Hd Bool)} {b k : Nat} {x : Hd Bool} {v : Bool} (hb : hs[b]? = some x) (hk : x.2[k]? = some v) : M hs b k ↔ v = true := by
  constructor
  · rintro ⟨y, h1, h2⟩
    rw [hb] at h1; cases h1
    rw [hk] at h2; cases h2; rfl
  · rintro rfl; exact ⟨x, hb, hk⟩
theorem Sq.put {n : Nat} {hs : List (Hd Bool)} (h : Sq n hs) {b k : Nat} {x : Hd Bool} {v : Bool} (hb : hs[b]? = some x) : Sq n (hs.set b (x.1, x.2.set k v)) := by
  refine ⟨by rw [List.length_set]; exact h.1, fun q y hy => ?_⟩
  by_cases e : q = b
  · subst e
    rw [List.getElem?_set_self (List.getElem?_eq_some_iff.1 hb).1] at hy
    cases hy
    simp only [List.length_set]
    exact h.2 _ x hb
  · rw [List.getElem?_set_ne (Ne.symm e)] at hy
    exact h.2 q y hy
theorem M.put {n : Nat} {hs : List (Hd Bool)} (h : Sq n hs) {b k : Nat} {x : Hd Bool} {v : Bool} (hb : hs[b]? = some x) (hk : k < n) (q j : Nat) : M (hs.set b (x.1, x.2.set k v)) q j ↔ if q = b ∧ j = k then v = true else M hs q j := by
  have hbl := (List.getElem?_eq_some_iff.1 hb).1
  have hxl := h.2 b x hb
  by_cases e : q = b
  · subst e
    by_cases e2 : j = k
    · subst e2
      rw [if_pos ⟨rfl, rfl⟩]
      refine M.iff (List.getElem?_set_self hbl) ?_
      simp only
      rw [List.getElem?_set_self (by omega)]
    · rw [if_neg (by simp [e2])]
      constructor
      · rintro ⟨y, h1, h2⟩
        rw [List.getElem?_set_self hbl] at h1
        cases h1
        simp only at h2
        rw [List.getElem?_set_ne (Ne.symm e2)] at h2
        exact ⟨x, hb, h2⟩
      · rintro ⟨y, h1, h2⟩
        rw [hb] at h1; cases h1
        exact ⟨_, List.getElem?_set_self hbl, by simp only; rw [List.getElem?_set_ne (Ne.symm e2)]; exact h2⟩
  · rw [if_neg (by simp [e])]
    unfold M
    rw [List.getElem?_set_ne (Ne.symm e)]

theorem count_unset {l : List Bool} : ∀ {i : Nat}, l[i]? = some true → (l.set i false).count true + 1 = l.count true := by
  induction l with
  | nil => intro i h; simp at h
  | cons x l ih =>
    intro i h
    cases i with
    | zero => simp at h; subst h; simp
    | succ i =>
      have := ih (i := i) (by simpa using h)
      simp only [List.set_cons_succ, List.count_cons]
      omega
theorem cnt_put {hs : List (Hd Bool)} : ∀ {b k : Nat} {x : Hd Bool}, hs[b]? = some x → x.2[k]? = some true → cnt (hs.set b (x.1, x.2.set k false)) + 1 = cnt hs := by
  induction hs with
  | nil => intro b k x h; simp at h
  | cons y hs ih =>
    intro b k x h h2
    cases b with
    | zero =>
      simp at h; subst h
      have := count_unset h2
      simp only [cnt, List.set_cons_zero, List.map_cons, List.sum_cons]
      omega
    | succ b =>
      have := ih (b := b) (by simpa using h) h2
      simp only [cnt, List.set_cons_succ, List.map_cons, List.sum_cons] at this ⊢
      omega

/-- What is true on the way. -/
structure Doing (ways : List (List Int)) (n : Nat) (hs : List (Hd Bool)) : Prop where
  sq : Sq n hs
  sound : ∀ b k, b < n → k < n → Dom ways b k → M hs b k
  upper : ∀ b k, M hs b k → Rch ways 0 (-1) b ∧ (b = 0 → k = 0)

/-- Nothing is to be struck at b. -/
def Calm (ways : List (List Int)) (hs : List (Hd Bool)) (b : Nat) : Prop := ∀ k, k ≠ b → M hs b k → ∀ p, E ways p b → Rch ways 0 (-1) p → M hs p k

theorem Doing.strike {ways : List (List Int)} {n : Nat} {hs : List (Hd Bool)} (h : Doing ways n hs) (hn : ways.length = n) {b k p : Nat} {x : Hd Bool} (hb : hs[b]? = some x) (hk : k < n) (hkb : k ≠ b) (hE : E ways p b) (hp : Rch ways 0 (-1) p) (hm : ¬ M hs p k) : Doing ways n (hs.set b (x.1, x.2.set k false)) := by
  refine ⟨h.sq.put hb, fun q j hq hj hd => ?_, fun q j hm' => ?_⟩
  · rw [M.put h.sq hb hk]
    split
    · rename_i e
      obtain ⟨rfl, rfl⟩ := e
      exfalso
      have hpn : p < n := by have := hp.lt; omega
      have : Rch ways 0 (j : Int) p := Classical.byContradiction fun hno => hm (h.sound p j hpn hj ⟨hp, hno⟩)
      exact hd.2 (.step this hE (by omega))
    · exact h.sound q j hq hj hd
  · rw [M.put h.sq hb hk] at hm'
    split at hm'
    · cases hm'
    · exact h.upper q j hm'

theorem Doing.end_ {ways : List (List Int)} {n : Nat} {hs : List (Hd Bool)} (h : Doing ways n hs) (hn : ways.length = n) (hc : ∀ b, 1 ≤ b → b < n → Rch ways 0 (-1) b → Calm ways hs b) {b k : Nat} (hb : b < n) (hk : k < n) : M hs b k ↔ Dom ways b k := by
  refine ⟨fun hm => ⟨(h.upper b k hm).1, fun hr => ?_⟩, h.sound b k hb hk⟩
  induction hr with
  | refl h1 h2 => have := (h.upper 0 k hm).2 rfl; omega
  | @step p c hp hE hne ih =>
    have hcn : c < n := by obtain ⟨_, _, _, h⟩ := hE; omega
    by_cases hc0 : c = 0
    · have := (h.upper c k hm).2 hc0; omega
    · have hpn : p < n := by have := hp.lt; omega
      exact ih hpn (hc c (by omega) hcn (h.upper c k hm).1 k (by omega) hm p hE hp.any)
end Go.Proofs.Ytgcmcgbkdeealaa
