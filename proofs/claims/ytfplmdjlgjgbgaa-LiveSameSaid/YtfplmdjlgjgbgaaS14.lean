/- Layer 7: known comes to an end. -/
import Derived.Test.YtfplmdjlgjgbgaaS10
import Derived.Test.YtfplmdjlgjgbgaaS7
namespace Go.Proofs.Ytfplmdjlgjgbgaa
set_option linter.unusedVariables false
set_option linter.unusedSimpArgs false
open Go Go.RowKit

theorem ways7_app {q : Nat} {a b : List SsaEdge} {s : Bool × Kn7} : ways7 q (a ++ b) s = ways7 q b (ways7 q a s) := by
  induction a generalizing s with
  | nil => rfl
  | cons w a ih => exact ih
theorem meet7_pos {s : Kn7} {n q : Nat} : (meet7 s n q).2.pos.length = s.pos.length := by
  unfold meet7; split
  · simp
  · split <;> rfl
theorem meet7_ls {s : Kn7} {n q : Nat} : (meet7 s n q).2.ls.length = s.ls.length := by
  unfold meet7; split
  · rfl
  · split <;> simp
theorem ways7_pos {q : Nat} {a : List SsaEdge} {s : Bool × Kn7} : (ways7 q a s).2.pos.length = s.2.pos.length := by
  induction a generalizing s with
  | nil => rfl
  | cons w a ih => exact (ih (s := _)).trans meet7_pos
theorem ways7_ls {q : Nat} {a : List SsaEdge} {s : Bool × Kn7} : (ways7 q a s).2.ls.length = s.2.ls.length := by
  induction a generalizing s with
  | nil => rfl
  | cons w a ih => exact (ih (s := _)).trans meet7_ls

theorem meet7_U {U : List Int} {s : Kn7} {n q : Nat} (hU : ∀ l ∈ s.ls, ∀ x ∈ l, x ∈ U) : ∀ l ∈ (meet7 s n q).2.ls, ∀ x ∈ l, x ∈ U := by
  unfold meet7
  split
  · exact hU
  · rename_i p hp
    split
    · exact hU
    · intro l hl x hx
      rcases List.mem_or_eq_of_mem_set hl with h | rfl
      · exact hU l h x hx
      · have hx := (List.mem_filter.1 hx).1
        by_cases h : p < s.ls.length
        · have e : s.ls.getD p [] = s.ls[p] := by simp [h]
          rw [e] at hx
          exact hU _ (List.getElem_mem h) x hx
        · have e : s.ls.getD p [] = [] := by simp [Nat.le_of_not_lt h]
          rw [e] at hx; cases hx
theorem ways7_left {U : List Int} {q : Nat} {a : List SsaEdge} {s : Bool × Kn7} (hw : ∀ w ∈ a, w.fTo.toNat < s.2.pos.length) (hU : ∀ l ∈ s.2.ls, ∀ x ∈ l, x ∈ U) :
    (∀ l ∈ (ways7 q a s).2.ls, ∀ x ∈ l, x ∈ U) ∧ left7 U (ways7 q a s).2 ≤ left7 U s.2 ∧ ((ways7 q a s).1 = true → s.1 = true ∨ left7 U (ways7 q a s).2 < left7 U s.2) ∧ ((ways7 q a s).1 = false → s.1 = false) := by
  induction a generalizing s with
  | nil => exact ⟨hU, Nat.le_refl _, fun h => .inl h, id⟩
  | cons w a ih =>
    have h := ih (s := ((meet7 s.2 w.fTo.toNat q).1 || s.1, (meet7 s.2 w.fTo.toNat q).2)) (fun x hx => by rw [meet7_pos]; exact hw x (by simp [hx])) (meet7_U hU)
    obtain ⟨h1, h2, h3, h4⟩ := h
    have e : ways7 q (w :: a) s = ways7 q a ((meet7 s.2 w.fTo.toNat q).1 || s.1, (meet7 s.2 w.fTo.toNat q).2) := rfl
    rw [e]
    dsimp only at h2 h3 h4
    cases hm : (meet7 s.2 w.fTo.toNat q).1 with
    | true =>
      have hl := meet7_left (hw w (by simp)) hU hm
      rw [hm] at h1 h2 h3 h4
      refine ⟨h1, by omega, fun _ => .inr (by omega), fun hf => ?_⟩
      have := h4 hf
      simp at this
    | false =>
      have hs := meet7_same hm
      rw [hm] at h1 h2 h3 h4
      rw [hs] at h1 h2 h3 h4 ⊢
      simp only [Bool.false_or] at h1 h2 h3 h4 ⊢
      exact ⟨h1, h2, h3, h4⟩


/-! ### blocks and rounds -/
def Ok7 (f : SsaFunc) (s : Kn7) : Prop := s.pos.length = f.fBlocks.xs.length ∧ (∀ q, some q ∈ s.pos → q < s.ls.length) ∧ ∀ l ∈ s.ls, ∀ x ∈ l, x ∈ madeAll f.fBlocks.xs
theorem left7_app {U : List Int} {pos : List (Option Nat)} {ls more : List (List Int)} (h : ∀ q, some q ∈ pos → q < ls.length) : left7 U ⟨pos, ls ++ more⟩ = left7 U ⟨pos, ls⟩ := by
  unfold left7
  congr 1
  refine List.map_congr_left fun p hp => ?_
  cases p with
  | none => rfl
  | some q =>
    have hq := h q hp
    have : (ls ++ more).getD q [] = ls.getD q [] := by simp [hq, List.getElem?_append_left hq]
    show (U.filter (· ∈ (ls ++ more).getD q [])).length = (U.filter (· ∈ ls.getD q [])).length
    rw [this]
theorem meet7_ix {s : Kn7} {n q : Nat} (h : ∀ r, some r ∈ s.pos → r < s.ls.length) (hq : q < s.ls.length) : ∀ r, some r ∈ (meet7 s n q).2.pos → r < (meet7 s n q).2.ls.length := by
  rw [meet7_ls]
  unfold meet7
  split
  · intro r hr
    rcases List.mem_or_eq_of_mem_set hr with hr | hr
    · exact h r hr
    · cases hr; exact hq
  · split <;> exact h
theorem ways7_ix {q : Nat} {a : List SsaEdge} {s : Bool × Kn7} (h : ∀ r, some r ∈ s.2.pos → r < s.2.ls.length) (hq : q < s.2.ls.length) : ∀ r, some r ∈ (ways7 q a s).2.pos → r < (ways7 q a s).2.ls.length := by
  induction a generalizing s with
  | nil => exact h
  | cons w a ih => exact ih (s := _) (meet7_ix h hq) (by rw [meet7_ls]; exact hq)
theorem made_sub {f : SsaFunc} {n : Nat} (hn : n < f.fBlocks.xs.length) {x : Int} (hx : x ∈ madeB (nth f.fBlocks.xs n)) : x ∈ madeAll f.fBlocks.xs := List.mem_flatMap.2 ⟨_, nth_mem hn, hx⟩
theorem ends_to {f : SsaFunc} {e : SsaEnd} (h : endsB f e = true) {w : SsaEdge} (hw : w ∈ e.fWays.xs) : 1 ≤ w.fTo ∧ w.fTo < f.fBlocks.xs.length := by
  unfold endsB at h
  simp only [Bool.and_eq_true, List.all_eq_true] at h
  have := h.2 w hw
  unfold wayB at this
  simp only [Bool.and_eq_true, decide_eq_true_eq] at this
  exact this.1
/-- The state in which the ways of a block are met. -/
def in7 (f : SsaFunc) (n q : Nat) (s : Kn7) : Kn7 := ⟨s.pos, s.ls ++ [s.ls.getD q [] ++ madeB (nth f.fBlocks.xs n)]⟩
def new7 (s : Kn7) (n : Nat) : Kn7 := ⟨s.pos.set n (some s.ls.length), s.ls ++ [[]]⟩
theorem blk7_skip {f : SsaFunc} {r : List Bool} {n : Nat} {s : Bool × Kn7} (h : nth r n = false ∨ (0 < n ∧ s.2.pos[n]?.join = none)) : blk7 f r n s = s := by rw [blk7, if_pos h]
theorem blk7_old {f : SsaFunc} {r : List Bool} {n q : Nat} {s : Bool × Kn7} (h : nth r n = true) (hq : s.2.pos[n]?.join = some q) : blk7 f r n s = ways7 s.2.ls.length (nth f.fBlocks.xs n).fEnd.fWays.xs (s.1, in7 f n q s.2) := by
  rw [blk7, if_neg (by simp [h, hq])]
  simp [hq, in7]
theorem blk7_new {f : SsaFunc} {r : List Bool} {n : Nat} {s : Bool × Kn7} (hn : n < s.2.pos.length) (h : nth r n = true) (h0 : n = 0) (hq : s.2.pos[n]?.join = none) : blk7 f r n s = ways7 (s.2.ls.length + 1) (nth f.fBlocks.xs n).fEnd.fWays.xs (true, in7 f n s.2.ls.length (new7 s.2 n)) := by
  subst h0
  have hp : s.2.pos[0] = none := by simpa [hn] using hq
  rw [blk7, if_neg (by simp [h])]
  simp [in7, new7, hn, hp]
theorem Ok7.in7 {f : SsaFunc} {n q : Nat} {s : Kn7} (h : Ok7 f s) (hn : n < f.fBlocks.xs.length) (hq : q < s.ls.length) : Ok7 f (in7 f n q s) ∧ left7 (madeAll f.fBlocks.xs) (Go.Proofs.Ytfplmdjlgjgbgaa.in7 f n q s) = left7 (madeAll f.fBlocks.xs) s := by
  obtain ⟨h1, h2, h3⟩ := h
  refine ⟨⟨h1, fun r hr => ?_, fun l hl x hx => ?_⟩, left7_app h2⟩
  · have := h2 r hr
    show r < (s.ls ++ [_]).length
    rw [List.length_append]; exact Nat.lt_of_lt_of_le this (Nat.le_add_right _ _)
  · rcases List.mem_append.1 hl with hl | hl
    · exact h3 l hl x hx
    · rw [List.mem_singleton] at hl
      subst hl
      rcases List.mem_append.1 hx with hx | hx
      · refine h3 (s.ls[q]) (List.getElem_mem hq) x ?_
        simpa [hq] using hx
      · exact made_sub hn hx
theorem Ok7.new7 {f : SsaFunc} {n : Nat} {s : Kn7} (h : Ok7 f s) (hn : n < f.fBlocks.xs.length) (hp : s.pos[n]?.join = none) : Ok7 f (new7 s n) ∧ left7 (madeAll f.fBlocks.xs) (Go.Proofs.Ytfplmdjlgjgbgaa.new7 s n) < left7 (madeAll f.fBlocks.xs) s := by
  obtain ⟨h1, h2, h3⟩ := h
  refine ⟨⟨by simp [Go.Proofs.Ytfplmdjlgjgbgaa.new7, h1], fun r hr => ?_, fun l hl x hx => ?_⟩, ?_⟩
  · show r < (s.ls ++ [[]]).length
    rw [List.length_append, List.length_singleton]
    rcases List.mem_or_eq_of_mem_set hr with hr | hr
    · have := h2 r hr; omega
    · cases hr; omega
  · rcases List.mem_append.1 hl with hl | hl
    · exact h3 l hl x hx
    · rw [List.mem_singleton] at hl
      subst hl; cases hx
  · have hn' : n < s.pos.length := by omega
    have hp' : s.pos[n] = none := by simpa [hn'] using hp
    rw [← left7_app (more := [[]]) h2, left7_eq, left7_eq]
    show ((s.pos.set n (some s.ls.length)).map (valP7 _ (s.ls ++ [[]]))).sum < (s.pos.map (valP7 _ (s.ls ++ [[]]))).sum
    have := sum_set7 (v := valP7 (madeAll f.fBlocks.xs) (s.ls ++ [[]])) (y := some s.ls.length) hn'
    rw [hp'] at this
    have h2 : valP7 (madeAll f.fBlocks.xs) (s.ls ++ [[]]) none = (madeAll f.fBlocks.xs).length + 1 := rfl
    have h3 := valP7_some (U := madeAll f.fBlocks.xs) (ls := s.ls ++ [[]]) (q := s.ls.length)
    omega
theorem Ok7.ways {f : SsaFunc} {q : Nat} {a : List SsaEdge} {s : Bool × Kn7} (h : Ok7 f s.2) (hq : q < s.2.ls.length) (hw : ∀ w ∈ a, 1 ≤ w.fTo ∧ w.fTo < f.fBlocks.xs.length) : Ok7 f (ways7 q a s).2 := by
  obtain ⟨h1, h2, h3⟩ := h
  exact ⟨by rw [ways7_pos, h1], ways7_ix h2 hq, (ways7_left (fun w hw' => by have := hw w hw'; omega) h3).1⟩
theorem blk7_left {f : SsaFunc} {r : List Bool} {n : Nat} {s : Bool × Kn7} (he : ∀ i, i < f.fBlocks.xs.length → endsB f (nth f.fBlocks.xs i).fEnd = true) (hn : n < f.fBlocks.xs.length) (h : Ok7 f s.2) :
    Ok7 f (blk7 f r n s).2 ∧ left7 (madeAll f.fBlocks.xs) (blk7 f r n s).2 ≤ left7 (madeAll f.fBlocks.xs) s.2 ∧ ((blk7 f r n s).1 = true → s.1 = true ∨ left7 (madeAll f.fBlocks.xs) (blk7 f r n s).2 < left7 (madeAll f.fBlocks.xs) s.2) := by
  have hw : ∀ w ∈ (nth f.fBlocks.xs n).fEnd.fWays.xs, 1 ≤ w.fTo ∧ w.fTo < f.fBlocks.xs.length := fun w hw => ends_to (he n hn) hw
  by_cases hr : nth r n = true
  · cases hq : s.2.pos[n]?.join with
    | some q =>
      have hq' : q < s.2.ls.length := h.2.1 q (by
        have hn' : n < s.2.pos.length := by rw [h.1]; exact hn
        have : s.2.pos[n] = some q := by simpa [hn'] using hq
        rw [← this]; exact List.getElem_mem hn')
      rw [blk7_old hr hq]
      obtain ⟨k1, k2⟩ := h.in7 hn hq'
      have k3 := k1.ways (s := (s.1, in7 f n q s.2)) (q := s.2.ls.length) (by show _ < (s.2.ls ++ [_]).length; simp) hw
      obtain ⟨_, k4, k5, _⟩ := ways7_left (U := madeAll f.fBlocks.xs) (q := s.2.ls.length) (s := (s.1, in7 f n q s.2)) (a := (nth f.fBlocks.xs n).fEnd.fWays.xs) (fun w hw' => by have := hw w hw'; have := k1.1; show _ < (in7 f n q s.2).pos.length; omega) k1.2.2
      dsimp only at k4 k5
      rw [k2] at k4 k5
      exact ⟨k3, k4, k5⟩
    | none =>
      by_cases h0 : n = 0
      · rw [blk7_new (by rw [h.1]; exact hn) hr h0 hq]
        obtain ⟨m1, m2⟩ := h.new7 hn hq
        obtain ⟨k1, k2⟩ := m1.in7 (q := s.2.ls.length) hn (by show _ < (s.2.ls ++ [_]).length; simp)
        have k3 := k1.ways (s := (true, in7 f n s.2.ls.length (new7 s.2 n))) (q := s.2.ls.length + 1) (by show _ < ((s.2.ls ++ [[]]) ++ [_]).length; simp) hw
        obtain ⟨_, k4, k5, _⟩ := ways7_left (U := madeAll f.fBlocks.xs) (q := s.2.ls.length + 1) (s := (true, in7 f n s.2.ls.length (new7 s.2 n))) (a := (nth f.fBlocks.xs n).fEnd.fWays.xs) (fun w hw' => by have := hw w hw'; have := k1.1; show _ < (in7 f n s.2.ls.length (new7 s.2 n)).pos.length; omega) k1.2.2
        dsimp only at k4 k5
        rw [k2] at k4 k5
        exact ⟨k3, by omega, fun _ => .inr (by omega)⟩
      · rw [blk7_skip (.inr ⟨by omega, hq⟩)]
        exact ⟨h, Nat.le_refl _, fun h => .inl h⟩
  · rw [blk7_skip (.inl (by simpa using hr))]
    exact ⟨h, Nat.le_refl _, fun h => .inl h⟩
theorem round7_left {f : SsaFunc} {r : List Bool} {n : Nat} {s : Bool × Kn7} (he : ∀ i, i < f.fBlocks.xs.length → endsB f (nth f.fBlocks.xs i).fEnd = true) (hn : n ≤ f.fBlocks.xs.length) (h : Ok7 f s.2) :
    Ok7 f (round7 f r n s).2 ∧ left7 (madeAll f.fBlocks.xs) (round7 f r n s).2 ≤ left7 (madeAll f.fBlocks.xs) s.2 ∧ ((round7 f r n s).1 = true → s.1 = true ∨ left7 (madeAll f.fBlocks.xs) (round7 f r n s).2 < left7 (madeAll f.fBlocks.xs) s.2) := by
  induction n with
  | zero => exact ⟨h, Nat.le_refl _, fun h => .inl h⟩
  | succ n ih =>
    obtain ⟨i1, i2, i3⟩ := ih (by omega)
    obtain ⟨k1, k2, k3⟩ := blk7_left (r := r) (s := round7 f r n s) he (by omega : n < _) i1
    show Ok7 f (blk7 f r n (round7 f r n s)).2 ∧ left7 _ (blk7 f r n (round7 f r n s)).2 ≤ _ ∧ ((blk7 f r n (round7 f r n s)).1 = true → s.1 = true ∨ left7 _ (blk7 f r n (round7 f r n s)).2 < _)
    refine ⟨k1, by omega, fun ht => ?_⟩
    rcases k3 ht with h1 | h1
    · rcases i3 h1 with h2 | h2
      · exact .inl h2
      · exact .inr (by omega)
    · exact .inr (by omega)
/-- How many blocks have a set. -/
def cnt7 (pos : List (Option Nat)) : Nat := pos.countP Option.isSome
theorem cnt7_le {pos : List (Option Nat)} : cnt7 pos ≤ pos.length := List.countP_le_length
theorem cnt7_set {pos : List (Option Nat)} {n q : Nat} (hn : n < pos.length) (h : pos[n]?.join = none) : cnt7 (pos.set n (some q)) = cnt7 pos + 1 := by
  have hp' : pos[n] = none := by simpa [hn] using h
  unfold cnt7
  rw [List.countP_set hn, hp']; simp
end Go.Proofs.Ytfplmdjlgjgbgaa
