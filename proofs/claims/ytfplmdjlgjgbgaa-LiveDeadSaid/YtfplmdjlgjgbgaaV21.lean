/- Layer 15: what known ends with, plainly. -/
import Derived.Test.YtfplmdjlgjgbgaaV18
namespace Go.Proofs.Ytfplmdjlgjgbgaa
set_option linter.unusedVariables false
set_option linter.unusedSimpArgs false
open Go Go.RowKit

theorem meet7_kept {s : Kn7} {n q : Nat} (h : (meet7 s n q).1 = false) : ∃ p, s.pos[n]?.join = some p ∧ ∀ k ∈ s.ls.getD p [], k ∈ s.ls.getD q [] := by
  unfold meet7 at h
  split at h
  · cases h
  · rename_i p hp
    refine ⟨p, hp, fun k hk => ?_⟩
    split at h
    · rename_i e; rw [← e]; exact hk
    · have h : decide (∃ k ∈ s.ls.getD p [], k ∉ s.ls.getD q []) = false := h
      have h := of_decide_eq_false h
      exact Classical.byContradiction fun hn => h ⟨k, hk, hn⟩
theorem ways7_kept {q : Nat} {ws : List SsaEdge} {s : Bool × Kn7} (h : (ways7 q ws s).1 = false) : s.1 = false ∧ (ways7 q ws s).2 = s.2 ∧ ∀ w ∈ ws, ∃ p, s.2.pos[w.fTo.toNat]?.join = some p ∧ ∀ k ∈ s.2.ls.getD p [], k ∈ s.2.ls.getD q [] := by
  induction ws generalizing s with
  | nil => exact ⟨h, rfl, fun w hw => nomatch hw⟩
  | cons w ws ih =>
    have h : (ways7 q ws ((meet7 s.2 w.fTo.toNat q).1 || s.1, (meet7 s.2 w.fTo.toNat q).2)).1 = false := h
    obtain ⟨h1, h2, h3⟩ := ih h
    have h1 : ((meet7 s.2 w.fTo.toNat q).1 || s.1) = false := h1
    rw [Bool.or_eq_false_iff] at h1
    have hs := meet7_same h1.1
    have h2 : (ways7 q ws ((meet7 s.2 w.fTo.toNat q).1 || s.1, (meet7 s.2 w.fTo.toNat q).2)).2 = (meet7 s.2 w.fTo.toNat q).2 := h2
    refine ⟨h1.2, h2.trans hs, fun u hu => ?_⟩
    rcases List.mem_cons.1 hu with rfl | hu
    · exact meet7_kept h1.1
    · obtain ⟨p, e1, e2⟩ := h3 u hu
      have e1 : (meet7 s.2 w.fTo.toNat q).2.pos[u.fTo.toNat]?.join = some p := e1
      have e2 : ∀ k ∈ (meet7 s.2 w.fTo.toNat q).2.ls.getD p [], k ∈ (meet7 s.2 w.fTo.toNat q).2.ls.getD q [] := e2
      rw [hs] at e1 e2
      exact ⟨p, e1, e2⟩
/-- Nothing changes at a block. -/
def Stay (f : SsaFunc) (r : List Bool) (s : Kn7) (n : Nat) : Prop := nth r n = true → (n = 0 ∨ s.pos[n]?.join ≠ none) → ∃ p, s.pos[n]?.join = some p ∧ ∀ w ∈ (nth f.fBlocks.xs n).fEnd.fWays.xs, ∃ p', s.pos[w.fTo.toNat]?.join = some p' ∧ ∀ k ∈ s.ls.getD p' [], k ∈ s.ls.getD p [] ∨ k ∈ madeB (nth f.fBlocks.xs n)
/-- The same where the blocks' sets lie. -/
def SameK (s s' : Kn7) : Prop := s'.pos = s.pos ∧ s.ls.length ≤ s'.ls.length ∧ ∀ p, p < s.ls.length → s'.ls.getD p [] = s.ls.getD p []
theorem blk7_kept {f : SsaFunc} {r : List Bool} {n : Nat} {s : Bool × Kn7} (hi : ∀ q, some q ∈ s.2.pos → q < s.2.ls.length) (h : (blk7 f r n s).1 = false) : s.1 = false ∧ SameK s.2 (blk7 f r n s).2 ∧ Stay f r s.2 n := by
  by_cases hc : nth r n = false ∨ (0 < n ∧ s.2.pos[n]?.join = none)
  · rw [blk7_skip hc] at h ⊢
    refine ⟨h, ⟨rfl, Nat.le_refl _, fun _ _ => rfl⟩, fun h1 h2 => ?_⟩
    rcases hc with hc | ⟨hc, hc2⟩
    · rw [h1] at hc; cases hc
    · rcases h2 with h2 | h2
      · omega
      · exact absurd hc2 h2
  · cases hq : s.2.pos[n]?.join with
    | none =>
      unfold blk7 at h
      rw [if_neg hc, if_pos hq] at h
      have := (ways7_kept h).1
      cases this
    | some q =>
      have hr : nth r n = true := by
        cases e : nth r n with
        | true => rfl
        | false => exact absurd (.inl e) hc
      have hqm : some q ∈ s.2.pos := by
        cases e : s.2.pos[n]? with
        | none => rw [e] at hq; cases hq
        | some o => rw [e] at hq; have : o = some q := hq; exact this ▸ List.mem_of_getElem? e
      have hql := hi q hqm
      have hb : blk7 f r n s = ways7 s.2.ls.length (nth f.fBlocks.xs n).fEnd.fWays.xs (s.1, ⟨s.2.pos, s.2.ls ++ [s.2.ls.getD q [] ++ madeB (nth f.fBlocks.xs n)]⟩) := blk7_old hr hq
      rw [hb] at h ⊢
      obtain ⟨h1, h2, h3⟩ := ways7_kept h
      have hg : ∀ p, p < s.2.ls.length → (s.2.ls ++ [s.2.ls.getD q [] ++ madeB (nth f.fBlocks.xs n)]).getD p [] = s.2.ls.getD p [] := fun p hp => by
        rw [List.getD_eq_getElem?_getD, List.getElem?_append_left hp, ← List.getD_eq_getElem?_getD]
      have hg2 : (s.2.ls ++ [s.2.ls.getD q [] ++ madeB (nth f.fBlocks.xs n)]).getD s.2.ls.length [] = s.2.ls.getD q [] ++ madeB (nth f.fBlocks.xs n) := by
        rw [List.getD_eq_getElem?_getD, List.getElem?_append_right (Nat.le_refl _)]; simp
      refine ⟨h1, ?_, fun _ _ => ⟨q, hq, fun w hw => ?_⟩⟩
      · rw [h2]
        exact ⟨rfl, by simp, hg⟩
      · obtain ⟨p, e1, e2⟩ := h3 w hw
        have e1 : s.2.pos[w.fTo.toNat]?.join = some p := e1
        refine ⟨p, e1, fun k hk => ?_⟩
        have hpm : some p ∈ s.2.pos := by
          cases e : s.2.pos[w.fTo.toNat]? with
          | none => rw [e] at e1; cases e1
          | some o => rw [e] at e1; have : o = some p := e1; exact this ▸ List.mem_of_getElem? e
        have := e2 k (by rw [hg p (hi p hpm)]; exact hk)
        rw [hg2] at this
        exact List.mem_append.1 this
theorem blk7_flag {f : SsaFunc} {r : List Bool} {n : Nat} {s : Bool × Kn7} (h : (blk7 f r n s).1 = false) : s.1 = false := by
  by_cases hc : nth r n = false ∨ (0 < n ∧ s.2.pos[n]?.join = none)
  · rw [blk7_skip hc] at h; exact h
  · unfold blk7 at h
    rw [if_neg hc] at h
    have h := (ways7_kept h).1
    by_cases hq : s.2.pos[n]?.join = none
    · simp [hq] at h
    · simpa [hq] using h
theorem round7_kept {f : SsaFunc} {r : List Bool} : ∀ {n : Nat} {s : Bool × Kn7}, (∀ q, some q ∈ s.2.pos → q < s.2.ls.length) → (round7 f r n s).1 = false → s.1 = false ∧ SameK s.2 (round7 f r n s).2 ∧ ∀ m, m < n → Stay f r s.2 m
  | 0, s, hi, h => ⟨h, ⟨rfl, Nat.le_refl _, fun _ _ => rfl⟩, fun m hm => absurd hm (Nat.not_lt_zero m)⟩
  | n + 1, s, hi, h => by
    have h : (blk7 f r n (round7 f r n s)).1 = false := h
    have hfl : (round7 f r n s).1 = false := blk7_flag h
    obtain ⟨h1, ⟨a1, a2, a3⟩, h3⟩ := round7_kept (n := n) hi hfl
    have hi' : ∀ q, some q ∈ (round7 f r n s).2.pos → q < (round7 f r n s).2.ls.length := fun q hq => by
      rw [a1] at hq
      exact Nat.lt_of_lt_of_le (hi q hq) a2
    obtain ⟨_, ⟨b1, b2, b3⟩, c3⟩ := blk7_kept hi' h
    refine ⟨h1, ⟨b1.trans a1, Nat.le_trans a2 b2, fun p hp => (b3 p (Nat.lt_of_lt_of_le hp a2)).trans (a3 p hp)⟩, fun m hm => ?_⟩
    rcases Nat.lt_or_ge m n with g | g
    · exact h3 m g
    · obtain rfl : m = n := by omega
      intro hr hp
      have hm : ∀ {j p : Nat}, s.2.pos[j]?.join = some p → p < s.2.ls.length := fun {j p} e1 => hi p (by
        cases e : s.2.pos[j]? with
        | none => rw [e] at e1; cases e1
        | some o => rw [e] at e1; have : o = some p := e1; exact this ▸ List.mem_of_getElem? e)
      obtain ⟨p, e1, e2⟩ := c3 hr (by rw [a1]; exact hp)
      rw [a1] at e1
      refine ⟨p, e1, fun w hw => ?_⟩
      obtain ⟨p', e3, e4⟩ := e2 w hw
      rw [a1] at e3
      refine ⟨p', e3, fun k hk => ?_⟩
      have := e4 k (by rw [a3 p' (hm e3)]; exact hk)
      rw [a3 p (hm e1)] at this
      exact this
theorem Stay.same {f : SsaFunc} {r : List Bool} {s s' : Kn7} {m : Nat} (hi : ∀ q, some q ∈ s.pos → q < s.ls.length) (hs : SameK s s') (h : Stay f r s m) : Stay f r s' m := by
  obtain ⟨a1, a2, a3⟩ := hs
  have hm : ∀ {j p : Nat}, s.pos[j]?.join = some p → p < s.ls.length := fun {j p} e1 => hi p (by
    cases e : s.pos[j]? with
    | none => rw [e] at e1; cases e1
    | some o => rw [e] at e1; have : o = some p := e1; exact this ▸ List.mem_of_getElem? e)
  intro hr hp
  rw [a1] at hp
  obtain ⟨p, e1, e2⟩ := h hr hp
  refine ⟨p, by rw [a1]; exact e1, fun w hw => ?_⟩
  obtain ⟨p', e3, e4⟩ := e2 w hw
  refine ⟨p', by rw [a1]; exact e3, fun k hk => ?_⟩
  rw [a3 p' (hm e3)] at hk
  rw [a3 p (hm e1)]
  exact e4 k hk
theorem fix7_kept {f : SsaFunc} {r : List Bool} (he : ∀ i, i < f.fBlocks.xs.length → endsB f (nth f.fBlocks.xs i).fEnd = true) : ∀ {k : Nat} {s : Kn7}, Ok7 f s → left7 (madeAll f.fBlocks.xs) s < k → Ok7 f (fix7 f r k s) ∧ ∀ m, m < f.fBlocks.xs.length → Stay f r (fix7 f r k s) m
  | 0, s, _, h => absurd h (Nat.not_lt_zero _)
  | k + 1, s, ho, h => by
    obtain ⟨h1, h2, h3⟩ := round7_left (r := r) (s := (false, s)) he (Nat.le_refl _) ho
    unfold fix7
    cases ht : (round7 f r f.fBlocks.xs.length (false, s)).1 with
    | true =>
      simp only [ht, if_true]
      have h4 := (h3 ht).resolve_left (by simp)
      have h4 : left7 (madeAll f.fBlocks.xs) (round7 f r f.fBlocks.xs.length (false, s)).2 < left7 (madeAll f.fBlocks.xs) s := h4
      exact fix7_kept he h1 (by omega)
    | false =>
      simp only [ht]
      obtain ⟨_, g2, g3⟩ := round7_kept (s := (false, s)) ho.2.1 ht
      exact ⟨h1, fun m hm => (g3 m hm).same ho.2.1 g2⟩
theorem left7_start {U : List Int} {N : Nat} : left7 U ⟨List.replicate N none, []⟩ = N * (U.length + 1) := by
  unfold left7
  rw [List.map_replicate]
  induction N with
  | zero => simp
  | succ N ih => rw [List.replicate_succ, List.sum_cons, ih, Nat.succ_mul, Nat.add_comm]
/-- What known ends with: a way's target's set lies within what its source's set and the source make. -/
theorem known7_kept {f : SsaFunc} (he : ∀ i, i < f.fBlocks.xs.length → endsB f (nth f.fBlocks.xs i).fEnd = true) : Ok7 f (known7 f) ∧ ∀ m, m < f.fBlocks.xs.length → Stay f (reachB7 f) (known7 f) m := by
  refine fix7_kept he ⟨List.length_replicate, fun q hq => ?_, fun l hl => (by cases hl)⟩ ?_
  · have := List.eq_of_mem_replicate hq
    cases this
  · rw [left7_start]
    have := Nat.mul_le_mul_left f.fBlocks.xs.length (show (madeAll f.fBlocks.xs).length + 1 ≤ (madeAll f.fBlocks.xs).length + 2 by omega)
    omega
theorem usesI_live {out : Int → Bool} : ∀ {is : List SsaIns} {l : List Int}, usesI l is = true → (∀ k, out k = true → k ∈ l ++ dstsB7 is) → ∀ k, is.foldr stepI out k = true → k ∈ l
  | [], l, _, ho, k, hk => by simpa [dstsB7] using ho k hk
  | a :: is, l, hu, ho, k, hk => by
    unfold usesI at hu
    rw [Bool.and_eq_true, List.all_eq_true] at hu
    have hk : stepI a (is.foldr stepI out) k = true := hk
    unfold stepI addL at hk
    rw [Bool.or_eq_true, Bool.and_eq_true, decide_eq_true_eq] at hk
    rcases hk with ⟨h1, h2⟩ | h1
    · rw [Bool.not_eq_true', decide_eq_false_iff_not] at h2
      by_cases h0 : a.fDst = 0
      · have hu2 := hu.2
        rw [if_pos h0] at hu2
        exact usesI_live hu2 (fun j hj => by have := ho j hj; simpa [dstsB7, h0] using this) k h1
      · have hu2 := hu.2
        rw [if_neg h0] at hu2
        have := usesI_live hu2 (fun j hj => by have := ho j hj; simpa [dstsB7, h0] using this) k h1
        rcases List.mem_append.1 this with g | g
        · exact g
        · exact absurd (List.mem_singleton.1 g) h2
    · exact of_decide_eq_true (hu.1 k h1)
/-- What is used from a block's start on is in its set or its parameter. -/
theorem usedB_live {l : List Int} {b : SsaBlock} {out : Int → Bool} (hu : usedB l b = true) (ho : ∀ k, out k = true → k ∈ l ++ madeB b) : ∀ k, backP b out k = true → k ∈ l ++ b.fParams.xs := by
  unfold usedB at hu
  rw [Bool.and_eq_true, Bool.and_eq_true, List.all_eq_true] at hu
  obtain ⟨⟨h1, h2⟩, h3⟩ := hu
  refine usesI_live h1 fun k hk => ?_
  rw [List.append_assoc]
  show k ∈ l ++ madeB b
  unfold addL at hk
  rw [Bool.or_eq_true, decide_eq_true_eq] at hk
  rcases hk with hk | hk
  · exact ho k hk
  · unfold usesE at hk
    rcases List.mem_append.1 hk with hk | hk
    · split at hk
      · rename_i hz
        rw [List.mem_singleton] at hk
        rw [Bool.or_eq_true, decide_eq_true_eq, decide_eq_true_eq] at h3
        rw [hk]
        exact h3.resolve_left hz
      · cases hk
    · obtain ⟨w, hw, hk⟩ := List.mem_flatMap.1 hk
      have := List.all_eq_true.1 (h2 w hw) k hk
      exact of_decide_eq_true this
/-- What is alive at a reached block is in its set (or its parameter). -/
theorem alive_known {f : SsaFunc} {I O : Nat → Int → Bool} (hQ : FixQ f I O) (he : ∀ i, i < f.fBlocks.xs.length → endsB f (nth f.fBlocks.xs i).fEnd = true) (hu : ∀ n, n < f.fBlocks.xs.length → usedAt f (known7 f) n = true)
    (hr : ∀ b, b < f.fBlocks.xs.length → nth (reachB7 f) b = true → ∀ w ∈ (nth f.fBlocks.xs b).fEnd.fWays.xs, nth (reachB7 f) w.fTo.toNat = true) {b p : Nat} (hb : b < f.fBlocks.xs.length) (hrb : nth (reachB7 f) b = true) (hp : (known7 f).pos[b]?.join = some p) :
    (∀ k, I b k = true → k ∈ (known7 f).ls.getD p [] ++ (nth f.fBlocks.xs b).fParams.xs) ∧ ∀ k, O b k = true → k ∈ (known7 f).ls.getD p [] ++ madeB (nth f.fBlocks.xs b) := by
  classical
  have hK := (known7_kept he).2
  have hc : ClosedQ f (fun b k => decide (nth (reachB7 f) b = true → ∀ p, (known7 f).pos[b]?.join = some p → k ∈ (known7 f).ls.getD p [] ++ (nth f.fBlocks.xs b).fParams.xs))
      (fun b k => decide (nth (reachB7 f) b = true → ∀ p, (known7 f).pos[b]?.join = some p → k ∈ (known7 f).ls.getD p [] ++ madeB (nth f.fBlocks.xs b))) := fun b hb => by
    refine ⟨fun k hk => ?_, fun k hk => ?_⟩
    · obtain ⟨w, h1, h2, h3, h4, h5⟩ := hk
      have h4 := of_decide_eq_true h4
      refine decide_eq_true fun hrb p hp => ?_
      obtain ⟨p0, e1, e2⟩ := hK b hb hrb (.inr (by rw [hp]; simp))
      rw [hp] at e1
      obtain rfl := Option.some.inj e1
      obtain ⟨p', e3, e4⟩ := e2 w h1
      have h6 := h4 (hr b hb hrb w h1) p' e3
      exact List.mem_append.2 (e4 k ((List.mem_append.1 h6).resolve_right h5))
    · refine decide_eq_true fun hrb p hp => ?_
      have h1 := hu b hb
      unfold usedAt at h1
      rw [hp] at h1
      exact usedB_live h1 (fun k hk => (of_decide_eq_true hk) hrb p hp) k hk
  obtain ⟨h1, h2⟩ := hQ.inv.least _ _ hc b hb
  exact ⟨fun k hk => of_decide_eq_true (h1 k hk) hrb p hp, fun k hk => of_decide_eq_true (h2 k hk) hrb p hp⟩
section
open Go Go.RowKit

structure GoW (n : Nat) (ws : List SsaEdge) (out : List Bool) (todo : List Int) (r : List Bool × List Int) : Prop where
  len : r.1.length = n
  td : ∀ t ∈ r.2, 0 ≤ t ∧ t < n
  cnt : cntF7 r.1 + r.2.length = cntF7 out + todo.length
  mono : ∀ x, nth out x = true → nth r.1 x = true
  keep : ∀ t ∈ todo, t ∈ r.2
  got : ∀ w ∈ ws, 0 ≤ w.fTo → w.fTo < n → nth r.1 w.fTo.toNat = true
  src : ∀ x, nth r.1 x = true → nth out x = true ∨ (x : Int) ∈ r.2 ∧ ∃ w ∈ ws, w.fTo = (x : Int) ∧ x < n
  new : ∀ t ∈ r.2, t ∈ todo ∨ ∃ w ∈ ws, w.fTo = t ∧ 0 ≤ t ∧ t < n
theorem goW7_ok {n : Nat} : ∀ {ws : List SsaEdge} {out : List Bool} {todo : List Int}, out.length = n → (∀ t ∈ todo, 0 ≤ t ∧ t < n) → GoW n ws out todo (goW7 n ws out todo)
  | [], out, todo, h1, h2 => ⟨h1, h2, rfl, fun _ h => h, fun _ h => h, fun w hw => (nomatch hw), fun x h => .inl h, fun t h => .inl h⟩
  | w :: ws, out, todo, h1, h2 => by
    by_cases hc : 0 ≤ w.fTo ∧ w.fTo < n ∧ nth out w.fTo.toNat = false
    · have e : goW7 n (w :: ws) out todo = goW7 n ws (out.set w.fTo.toNat true) (todo ++ [w.fTo]) := by
        rw [goW7, if_pos hc]
      rw [e]
      obtain ⟨c1, c2, c3⟩ := hc
      have hx : w.fTo.toNat < out.length := by omega
      have ih := goW7_ok (n := n) (ws := ws) (out := out.set w.fTo.toNat true) (todo := todo ++ [w.fTo]) (by rw [List.length_set]; exact h1) (fun t ht => by
        rcases List.mem_append.1 ht with ht | ht
        · exact h2 t ht
        · rw [List.mem_singleton] at ht; rw [ht]; exact ⟨c1, c2⟩)
      have hs : nth (out.set w.fTo.toNat true) w.fTo.toNat = true := by rw [nth_set hx, if_pos rfl]
      refine ⟨ih.len, ih.td, ?_, fun x h => ih.mono x ?_, fun t ht => ih.keep t (by simp [ht]), fun u hu a1 a2 => ?_, fun x h => ?_, fun t h => ?_⟩
      · have := ih.cnt
        have hk := cntF7_set hx c3
        rw [List.length_append, List.length_singleton] at this
        omega
      · rw [nth_set hx]
        split
        · rfl
        · exact h
      · rcases List.mem_cons.1 hu with rfl | hu
        · exact ih.mono _ hs
        · exact ih.got u hu a1 a2
      · rcases ih.src x h with g | ⟨g1, u, g2, g3⟩
        · rw [nth_set hx] at g
          split at g
          · rename_i e
            exact .inr ⟨ih.keep _ (by rw [e]; simp; omega), w, by simp, by omega, by omega⟩
          · exact .inl g
        · exact .inr ⟨g1, u, by simp [g2], g3⟩
      · rcases ih.new t h with g | ⟨u, g2, g3⟩
        · rcases List.mem_append.1 g with g | g
          · exact .inl g
          · rw [List.mem_singleton] at g
            exact .inr ⟨w, by simp, g.symm, by omega, by omega⟩
        · exact .inr ⟨u, by simp [g2], g3⟩
    · have e : goW7 n (w :: ws) out todo = goW7 n ws out todo := by
        rw [goW7, if_neg hc]
      rw [e]
      have ih := goW7_ok (n := n) (ws := ws) (out := out) (todo := todo) h1 h2
      refine ⟨ih.len, ih.td, ih.cnt, ih.mono, ih.keep, fun u hu a1 a2 => ?_, fun x h => ?_, fun t h => ?_⟩
      · rcases List.mem_cons.1 hu with rfl | hu
        · refine ih.mono _ ?_
          cases ho : nth out u.fTo.toNat with
          | true => rfl
          | false => exact absurd ⟨a1, a2, ho⟩ hc
        · exact ih.got u hu a1 a2
      · rcases ih.src x h with g | ⟨g1, u, g2, g3⟩
        · exact .inl g
        · exact .inr ⟨g1, u, by simp [g2], g3⟩
      · rcases ih.new t h with g | ⟨u, g2, g3⟩
        · exact .inl g
        · exact .inr ⟨u, by simp [g2], g3⟩
theorem reachL7_ok {f : SsaFunc} {Q : Nat → Prop} (hQ : ∀ x, x < f.fBlocks.xs.length → Q x → ∀ w ∈ waysQ f x, 0 ≤ w.fTo → w.fTo < f.fBlocks.xs.length → Q w.fTo.toNat) :
    ∀ {k : Nat} {out : List Bool} {todo : List Int}, out.length = f.fBlocks.xs.length → (∀ t ∈ todo, 0 ≤ t ∧ t < f.fBlocks.xs.length) → cntF7 out + todo.length ≤ k →
      (∀ x, x < f.fBlocks.xs.length → nth out x = true → (x : Int) ∈ todo ∨ ∀ w ∈ waysQ f x, 0 ≤ w.fTo → w.fTo < f.fBlocks.xs.length → nth out w.fTo.toNat = true) →
      (∀ x, nth out x = true → Q x) → (∀ t ∈ todo, Q t.toNat) →
      (∀ x, nth out x = true → nth (reachL7 f k out todo) x = true) ∧ (∀ x, x < f.fBlocks.xs.length → nth (reachL7 f k out todo) x = true → ∀ w ∈ waysQ f x, 0 ≤ w.fTo → w.fTo < f.fBlocks.xs.length → nth (reachL7 f k out todo) w.fTo.toNat = true) ∧ ∀ x, nth (reachL7 f k out todo) x = true → Q x
  | k, out, [], _, _, _, hc, hq, _ => by
    have e : reachL7 f k out [] = out := by cases k <;> rfl
    rw [e]
    exact ⟨fun _ h => h, fun x hx h => (hc x hx h).resolve_left (by simp), hq⟩
  | 0, out, t :: todo, _, _, hk, _, _, _ => by simp at hk
  | k + 1, out, t :: todo, hl, ht, hk, hc, hq, hqt => by
    have g := goW7_ok (n := f.fBlocks.xs.length) (ws := waysQ f t.toNat) (out := out) (todo := todo) hl fun x hx => ht x (by simp [hx])
    have e : reachL7 f (k + 1) out (t :: todo) = reachL7 f k (goW7 f.fBlocks.xs.length (waysQ f t.toNat) out todo).1 (goW7 f.fBlocks.xs.length (waysQ f t.toNat) out todo).2 := rfl
    rw [e]
    obtain ⟨ht0, ht1⟩ := ht t (by simp)
    have hqt0 : Q t.toNat := hqt t (by simp)
    have hsrc : ∀ x, nth (goW7 f.fBlocks.xs.length (waysQ f t.toNat) out todo).1 x = true → Q x := fun x hx => by
      rcases g.src x hx with h | ⟨_, w, hw, hwx, hxn⟩
      · exact hq x h
      · have := hQ t.toNat (by omega) hqt0 w hw (by omega) (by omega)
        rw [hwx] at this
        exact this
    have htd : ∀ u ∈ (goW7 f.fBlocks.xs.length (waysQ f t.toNat) out todo).2, Q u.toNat := fun u hu => by
      rcases g.new u hu with h | ⟨w, hw, hwx, h0, hn⟩
      · exact hqt u (by simp [h])
      · have := hQ t.toNat (by omega) hqt0 w hw (by omega) (by omega)
        rw [hwx] at this
        exact this
    obtain ⟨a1, a2, a3⟩ := reachL7_ok hQ (k := k) g.len g.td (by
        have := g.cnt
        simp only [List.length_cons] at hk
        omega) (fun x hx h => by
        rcases g.src x h with h1 | ⟨h1, _⟩
        · rcases hc x hx h1 with h2 | h2
          · rcases List.mem_cons.1 h2 with h3 | h3
            · refine .inr fun w hw b1 b2 => g.got w ?_ b1 b2
              have : t.toNat = x := by omega
              rw [this]; exact hw
            · exact .inl (g.keep _ h3)
          · exact .inr fun w hw b1 b2 => g.mono _ (h2 w hw b1 b2)
        · exact .inl h1) hsrc htd
    exact ⟨fun x h => a1 x (g.mono x h), a2, a3⟩
/-- What can be come to: closed under ways, and no more than that. -/
theorem reach7_ok {f : SsaFunc} (h0 : 0 < f.fBlocks.xs.length) : nth (reachB7 f) 0 = true ∧ (∀ x, x < f.fBlocks.xs.length → nth (reachB7 f) x = true → ∀ w ∈ waysQ f x, 0 ≤ w.fTo → w.fTo < f.fBlocks.xs.length → nth (reachB7 f) w.fTo.toNat = true) ∧
    ∀ Q : Nat → Prop, Q 0 → (∀ x, x < f.fBlocks.xs.length → Q x → ∀ w ∈ waysQ f x, 0 ≤ w.fTo → w.fTo < f.fBlocks.xs.length → Q w.fTo.toNat) → ∀ x, nth (reachB7 f) x = true → Q x := by
  have hl : (List.replicate f.fBlocks.xs.length false).length = f.fBlocks.xs.length := List.length_replicate
  have hs : ∀ x, nth ((List.replicate f.fBlocks.xs.length false).set 0 true) x = true ↔ x = 0 := fun x => by
    rw [nth_set (by rw [hl]; exact h0)]
    split
    · rename_i e; simp [e]
    · rename_i e
      rw [show nth (List.replicate f.fBlocks.xs.length false) x = false from nth_rep]
      simp [e]
  have hcn : cntF7 ((List.replicate f.fBlocks.xs.length false).set 0 true) + 1 = f.fBlocks.xs.length := by
    rw [cntF7_set (i := 0) (out := List.replicate f.fBlocks.xs.length false) (by simp; omega) (nth_rep (α := Bool)), cntF7_rep]
  have key : ∀ Q : Nat → Prop, Q 0 → (∀ x, x < f.fBlocks.xs.length → Q x → ∀ w ∈ waysQ f x, 0 ≤ w.fTo → w.fTo < f.fBlocks.xs.length → Q w.fTo.toNat) → _ := fun Q q0 hQ =>
    reachL7_ok (f := f) (Q := Q) hQ (k := f.fBlocks.xs.length) (out := (List.replicate f.fBlocks.xs.length false).set 0 true) (todo := [0]) (by rw [List.length_set, hl]) (fun t ht => by rw [List.mem_singleton] at ht; omega) (by simp only [List.length_singleton]; omega)
      (fun x hx h => .inl (by rw [(hs x).1 h]; simp)) (fun x h => by rw [(hs x).1 h]; exact q0) (fun t ht => by rw [List.mem_singleton] at ht; rw [ht]; exact q0)
  have e : reachB7 f = reachL7 f f.fBlocks.xs.length ((List.replicate f.fBlocks.xs.length false).set 0 true) [0] := by
    unfold reachB7; rw [if_neg (by omega)]
  rw [e]
  obtain ⟨a1, a2, _⟩ := key (fun _ => True) trivial (fun _ _ _ _ _ _ _ => trivial)
  exact ⟨a1 0 ((hs 0).2 rfl), a2, fun Q q0 hQ => (key Q q0 hQ).2.2⟩
/-- What Check says of a function. -/
structure GoodF (f : SsaFunc) : Prop where
  n0 : 0 < f.fBlocks.xs.length
  ends : ∀ i, i < f.fBlocks.xs.length → endsB f (nth f.fBlocks.xs i).fEnd = true
  used : ∀ n, n < f.fBlocks.xs.length → usedAt f (known7 f) n = true
  nodup : (madeAll f.fBlocks.xs).Nodup
  pos : ∀ v ∈ madeAll f.fBlocks.xs, 0 < v
theorem good_of {p : SsaProg} (h : checkB p = true) {i : Nat} (hi : i < p.fFuncs.xs.length) : GoodF (nth p.fFuncs.xs i) := by
  unfold checkB at h
  rw [Bool.and_eq_true, List.all_eq_true] at h
  have h := h.2 _ (nth_mem hi)
  unfold fnB at h
  simp only [Bool.and_eq_true, decide_eq_true_eq, List.all_eq_true] at h
  obtain ⟨⟨⟨⟨h1, _⟩, h2⟩, h3⟩, h4⟩ := h
  unfold onceB at h2
  simp only [Bool.and_eq_true, decide_eq_true_eq, List.all_eq_true] at h2
  refine ⟨h1, fun j hj => ?_, fun n hn => h4 n (List.mem_range.2 hn), h2.2, fun v hv => h2.1 v hv⟩
  have := h3 _ (nth_mem hj)
  unfold blkB at this
  rw [Bool.and_eq_true] at this
  exact this.1
section
variable {f : SsaFunc} (hG : GoodF f)
include hG
theorem GoodF.way {b : Nat} (hb : b < f.fBlocks.xs.length) : ∀ w ∈ waysQ f b, 0 ≤ w.fTo ∧ w.fTo < f.fBlocks.xs.length := fun w hw => by
  have := ends_to (hG.ends b hb) hw
  omega
theorem GoodF.reach {b : Nat} (hb : b < f.fBlocks.xs.length) (hr : nth (reachB7 f) b = true) : ∀ w ∈ waysQ f b, nth (reachB7 f) w.fTo.toNat = true := fun w hw => by
  obtain ⟨h1, h2⟩ := hG.way hb w hw
  exact (reach7_ok hG.n0).2.1 b hb hr w hw h1 h2
theorem GoodF.set {b : Nat} (hr : nth (reachB7 f) b = true) : ∃ p, (known7 f).pos[b]?.join = some p := by
  have hK := (known7_kept hG.ends).2
  refine ((reach7_ok hG.n0).2.2 (fun b => nth (reachB7 f) b = true ∧ ∃ p, (known7 f).pos[b]?.join = some p) ⟨(reach7_ok hG.n0).1, ?_⟩ ?_ b hr).2
  · obtain ⟨p, h, _⟩ := hK 0 hG.n0 (reach7_ok hG.n0).1 (.inl rfl)
    exact ⟨p, h⟩
  · rintro x hx ⟨hq, p, hp⟩ w hw h0 h1
    refine ⟨hG.reach hx hq w hw, ?_⟩
    obtain ⟨p, _, h⟩ := hK x hx hq (.inr (by rw [hp]; simp))
    obtain ⟨p', h, _⟩ := h w hw
    exact ⟨p', h⟩
theorem GoodF.made {I O : Nat → Int → Bool} (hQ : FixQ f I O) {b : Nat} (hb : b < f.fBlocks.xs.length) (hr : nth (reachB7 f) b = true) : (∀ k, I b k = true → k ∈ madeAll f.fBlocks.xs) ∧ ∀ k, O b k = true → k ∈ madeAll f.fBlocks.xs := by
  obtain ⟨p, hp⟩ := hG.set hr
  obtain ⟨hO, _⟩ := known7_kept hG.ends
  have hl : ∀ k ∈ (known7 f).ls.getD p [], k ∈ madeAll f.fBlocks.xs := fun k hk => by
    have hp : p < (known7 f).ls.length := hO.2.1 p (by
      cases e : (known7 f).pos[b]? with
      | none => rw [e] at hp; cases hp
      | some o => rw [e] at hp; have : o = some p := hp; exact this ▸ List.mem_of_getElem? e)
    rw [List.getD_eq_getElem?_getD, List.getElem?_eq_getElem hp] at hk
    exact hO.2.2 _ (List.getElem_mem hp) k hk
  have hm : ∀ k ∈ madeB (nth f.fBlocks.xs b), k ∈ madeAll f.fBlocks.xs := fun k hk => List.mem_flatMap.2 ⟨_, nth_mem hb, hk⟩
  obtain ⟨h1, h2⟩ := alive_known hQ hG.ends hG.used (fun b hb hr => hG.reach hb hr) hb hr hp
  refine ⟨fun k hk => ?_, fun k hk => ?_⟩
  · rcases List.mem_append.1 (h1 k hk) with h | h
    · exact hl k h
    · exact hm k (List.mem_append_left _ h)
  · rcases List.mem_append.1 (h2 k hk) with h | h
    · exact hl k h
    · exact hm k h
end
/-- How many of the keys there are, of a list without doubles. -/
theorem card_of {ks us : List Int} {p : Int → Bool} (hk : ks.Nodup) (hm : ∀ k, k ∈ ks ↔ setP p k ≠ none) (hu : us.Nodup) (hin : ∀ k, p k = true → k ∈ us) : ks.length = (us.filter p).length := by
  refine Nat.le_antisymm (nodup_le hk fun k h => ?_) (nodup_le (hu.filter _) fun k h => ?_)
  · have := (setP_ne p k).1 ((hm k).1 h)
    exact List.mem_filter.2 ⟨hin k this, this⟩
  · exact (hm k).2 ((setP_ne p k).2 (List.mem_filter.1 h).2)
theorem FixQ.ctr {f : SsaFunc} {I O : Nat → Int → Bool} (h : FixQ f I O) {b : Nat} (hb : b < f.fBlocks.xs.length) (k : Int) : O b k = true ↔ Ctr f I b k := ⟨h.inv.sound b hb k, (h.at_ b hb).2 k⟩
end
end Go.Proofs.Ytfplmdjlgjgbgaa
