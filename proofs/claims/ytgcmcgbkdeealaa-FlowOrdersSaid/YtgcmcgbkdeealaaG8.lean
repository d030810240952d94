/- What can be come to, reckoned: sets as bits. -/
import Derived.Test.YtgcmcgbkdeealaaG6
namespace Go.Proofs.Ytgcmcgbkdeealaa
set_option linter.unusedVariables false
set_option linter.unusedSimpArgs false
open Go

def succs (ways : List (List Int)) (b : Nat) : List Nat := ((ways[b]?).getD []).filterMap fun (t : Int) => if 0 ≤ t ∧ t < ways.length then some t.toNat else none
theorem mem_succs {ways : List (List Int)} {b c : Nat} : c ∈ succs ways b ↔ E ways b c := by
  unfold succs E
  rw [List.mem_filterMap]
  cases h : ways[b]? with
  | none => simp
  | some l =>
    simp only [Option.getD_some, Option.some.injEq]
    constructor
    · rintro ⟨t, ht, h2⟩
      split at h2
      · rename_i h3
        cases h2
        exact ⟨l, rfl, by rw [Int.toNat_of_nonneg h3.1]; exact ht, by omega⟩
      · cases h2
    · rintro ⟨l', rfl, h1, h2⟩
      exact ⟨(c : Int), h1, by rw [if_pos (by omega)]; simp⟩

def bitsOf (l : List Nat) : Nat := l.foldr (fun b m => m ||| 1 <<< b) 0
theorem testBit_one_shl (b i : Nat) : (1 <<< b).testBit i = decide (b = i) := by
  rw [Nat.one_shiftLeft]; exact Nat.testBit_two_pow
theorem mem_bits {l : List Nat} {i : Nat} : (bitsOf l).testBit i = decide (i ∈ l) := by
  induction l with
  | nil => simp [bitsOf]
  | cons b l ih =>
    show (bitsOf l ||| 1 <<< b).testBit i = _
    rw [Nat.testBit_or, ih, testBit_one_shl]
    by_cases h : b = i
    · subst h; simp
    · have : i ≠ b := fun e => h e.symm
      simp [h, this]
/-- One step more. -/
def stepM (sm : List Nat) (x : Int) (R : Nat) : Nat := (sm.zipIdx).foldr (fun p m => bif R.testBit p.2 then m ||| p.1 else m) R &&& (bif decide (0 ≤ x) then (2 ^ sm.length - 1) - (1 <<< x.toNat) else 2 ^ sm.length - 1)
def smOf (ways : List (List Int)) : List Nat := (List.range ways.length).map fun b => bitsOf (succs ways b)
theorem fold_bits {R : Nat} {i : Nat} : ∀ (l : List (Nat × Nat)), ((l.foldr (fun p m => bif R.testBit p.2 then m ||| p.1 else m) R).testBit i = true ↔ (R.testBit i = true ∨ ∃ p ∈ l, R.testBit p.2 = true ∧ p.1.testBit i = true))
  | [] => by simp
  | p :: l => by
    rw [List.foldr_cons]
    cases h : R.testBit p.2 with
    | false =>
      simp only [cond_false]
      rw [fold_bits l]
      constructor
      · rintro (h1 | ⟨q, h1, h2⟩)
        · exact .inl h1
        · exact .inr ⟨q, by simp [h1], h2⟩
      · rintro (h1 | ⟨q, h1, h2, h3⟩)
        · exact .inl h1
        · rcases List.mem_cons.1 h1 with rfl | h1
          · rw [h] at h2; cases h2
          · exact .inr ⟨q, h1, h2, h3⟩
    | true =>
      simp only [cond_true]
      rw [Nat.testBit_or, Bool.or_eq_true, fold_bits l]
      constructor
      · rintro ((h1 | ⟨q, h1, h2⟩) | h1)
        · exact .inl h1
        · exact .inr ⟨q, by simp [h1], h2⟩
        · exact .inr ⟨p, by simp, h, h1⟩
      · rintro (h1 | ⟨q, h1, h2, h3⟩)
        · exact .inl (.inl h1)
        · rcases List.mem_cons.1 h1 with rfl | h1
          · exact .inr h3
          · exact .inl (.inr ⟨q, h1, h2, h3⟩)
theorem mem_sm {ways : List (List Int)} {p : Nat × Nat} (h : p ∈ (smOf ways).zipIdx) : p.1 = bitsOf (succs ways p.2) ∧ p.2 < ways.length := by
  obtain ⟨h1, h2⟩ := List.mem_zipIdx' (x := p.1) (i := p.2) h
  unfold smOf at h1 h2
  rw [List.length_map, List.length_range] at h1
  refine ⟨?_, h1⟩
  rw [h2]; simp
theorem sm_mem {ways : List (List Int)} {b : Nat} (h : b < ways.length) : (bitsOf (succs ways b), b) ∈ (smOf ways).zipIdx := by
  rw [List.mem_iff_getElem?]
  refine ⟨b, ?_⟩
  rw [List.getElem?_zipIdx]
  unfold smOf
  rw [List.getElem?_map, List.getElem?_range h]; simp
theorem mask_bit {n : Nat} {x : Int} {i : Nat} (hx : x < n) : (bif decide (0 ≤ x) then (2 ^ n - 1) - (1 <<< x.toNat) else 2 ^ n - 1).testBit i = true ↔ (i < n ∧ (i : Int) ≠ x) := by
  by_cases h : 0 ≤ x
  · have e : decide (0 ≤ x) = true := by simpa using h
    rw [e, cond_true, Nat.one_shiftLeft]
    have hxn : x.toNat < n := by omega
    have h1 : (2 ^ n - 1) - 2 ^ x.toNat = (2 ^ n - 1) ^^^ 2 ^ x.toNat := by
      have hb : (2 ^ n - 1).testBit x.toNat = true := by rw [Nat.testBit_two_pow_sub_one]; simpa using hxn
      apply Nat.eq_of_testBit_eq
      intro j
      rw [Nat.testBit_xor, Nat.testBit_two_pow, Nat.testBit_two_pow_sub_one]
      have h2 : 2 ^ n - 1 - 2 ^ x.toNat = 2 ^ n - (2 ^ x.toNat + 1) := by omega
      rw [h2, Nat.testBit_two_pow_sub_succ (Nat.pow_lt_pow_right (by omega) hxn), Nat.testBit_two_pow]
      by_cases hj : j < n <;> by_cases hj2 : x.toNat = j <;> simp [hj, hj2]
      omega
    rw [h1, Nat.testBit_xor, Nat.testBit_two_pow, Nat.testBit_two_pow_sub_one]
    by_cases hi : i < n <;> by_cases hi2 : x.toNat = i <;> simp [hi, hi2] <;> omega
  · have e : decide (0 ≤ x) = false := by simpa using h
    rw [e, cond_false, Nat.testBit_two_pow_sub_one]
    simp; omega
theorem step_bit {ways : List (List Int)} {x : Int} {R i : Nat} (hx : x < ways.length) : (stepM (smOf ways) x R).testBit i = true ↔ ((R.testBit i = true ∨ ∃ b, R.testBit b = true ∧ E ways b i) ∧ i < ways.length ∧ (i : Int) ≠ x) := by
  unfold stepM
  have hl : (smOf ways).length = ways.length := by simp [smOf]
  rw [Nat.testBit_and, Bool.and_eq_true, fold_bits, hl, mask_bit hx]
  refine and_congr (or_congr Iff.rfl ?_) Iff.rfl
  constructor
  · rintro ⟨p, h1, h2, h3⟩
    obtain ⟨h4, h5⟩ := mem_sm h1
    rw [h4, mem_bits] at h3
    exact ⟨p.2, h2, mem_succs.1 (by simpa using h3)⟩
  · rintro ⟨b, h1, h2⟩
    have hb : b < ways.length := by obtain ⟨l, hl, _⟩ := h2; exact (List.getElem?_eq_some_iff.1 hl).1
    exact ⟨_, sm_mem hb, h1, by rw [mem_bits]; simpa using mem_succs.2 h2⟩
def iterM (sm : List Nat) (x : Int) : Nat → Nat → Nat
  | 0, R => R
  | k + 1, R => iterM sm x k (stepM sm x R)
def rchM (sm : List Nat) (a : Nat) (x : Int) : Nat := iterM sm x sm.length (bif decide ((a : Int) = x) then 0 else 1 <<< a)
theorem iter_sound {ways : List (List Int)} {a : Nat} {x : Int} (hx : x < ways.length) : ∀ (k R : Nat), (∀ i, R.testBit i = true → Rch ways a x i) → ∀ i, (iterM (smOf ways) x k R).testBit i = true → Rch ways a x i
  | 0, R, h, i, hi => h i hi
  | k + 1, R, h, i, hi => iter_sound hx k _ (fun j hj => by
    obtain ⟨h1, h2, h3⟩ := (step_bit hx).1 hj
    rcases h1 with h1 | ⟨b, h1, h4⟩
    · exact h j h1
    · exact .step (h b h1) h4 h3) i hi
theorem iter_more {ways : List (List Int)} {x : Int} (hx : x < ways.length) {i : Nat} (hi : i < ways.length) (hix : (i : Int) ≠ x) : ∀ (k R : Nat), R.testBit i = true → (iterM (smOf ways) x k R).testBit i = true
  | 0, R, h => h
  | k + 1, R, h => iter_more hx hi hix k _ ((step_bit hx).2 ⟨.inl h, hi, hix⟩)
theorem rchM_iff {ways : List (List Int)} {a : Nat} {x : Int} (ha : a < ways.length) (hx : x < ways.length) (hc : stepM (smOf ways) x (rchM (smOf ways) a x) = rchM (smOf ways) a x) (k : Nat) : (rchM (smOf ways) a x).testBit k = true ↔ Rch ways a x k := by
  have h0 : ∀ i, (bif decide ((a : Int) = x) then 0 else 1 <<< a).testBit i = true ↔ (i = a ∧ (a : Int) ≠ x) := fun i => by
    by_cases e : (a : Int) = x
    · simp [e]
    · simp only [e, decide_false, cond_false]
      rw [testBit_one_shl]; simp [e]; omega
  constructor
  · intro h
    refine iter_sound hx _ _ (fun i hi => ?_) k h
    obtain ⟨rfl, h2⟩ := (h0 i).1 hi
    exact .refl ha h2
  · intro h
    induction h with
    | refl h1 h2 => exact iter_more hx h1 h2 _ _ ((h0 a).2 ⟨rfl, h2⟩)
    | step h1 h2 h3 ih =>
      rw [← hc]
      have := h2
      obtain ⟨_, _, _, h4⟩ := h2
      exact (step_bit hx).2 ⟨.inr ⟨_, ih, this⟩, h4, h3⟩

/-! in how many loops -/
def allM (ways : List (List Int)) : Bool := (List.range ways.length).all fun a => ((-1 : Int) :: (List.range ways.length).map fun (x : Nat) => (x : Int)).all fun x => Nat.beq (stepM (smOf ways) x (rchM (smOf ways) a x)) (rchM (smOf ways) a x)
theorem allM_iff {ways : List (List Int)} (h : allM ways = true) {a : Nat} {x : Int} (ha : a < ways.length) (h1 : -1 ≤ x) (h2 : x < ways.length) (k : Nat) : (rchM (smOf ways) a x).testBit k = true ↔ Rch ways a x k := by
  refine rchM_iff ha h2 (Nat.eq_of_beq_eq_true ?_) k
  have h3 := List.all_eq_true.1 (List.all_eq_true.1 h a (List.mem_range.2 ha)) x ?_
  · exact h3
  · by_cases e : x = -1
    · simp [e]
    · refine List.mem_cons_of_mem _ (List.mem_map.2 ⟨x.toNat, List.mem_range.2 (by omega), by omega⟩)
def topB (ways : List (List Int)) (sm : List Nat) (R : Nat) (top k : Nat) : Bool :=
  (List.range ways.length).any fun b => (succs ways b).contains top && R.testBit b && !((rchM sm 0 top).testBit b) && (Nat.beq k top || (R.testBit k && (rchM sm k top).testBit b))
theorem topB_iff {ways : List (List Int)} (h : allM ways = true) {top k : Nat} (ht : top < ways.length) (hk : k < ways.length) : topB ways (smOf ways) (rchM (smOf ways) 0 (-1)) top k = true ↔ InTop ways top k := by
  have hn : 0 < ways.length := by omega
  have a1 := fun b => allM_iff h (a := 0) (x := -1) hn (by omega) (by omega) b
  have a2 := fun b => allM_iff h (a := 0) (x := top) hn (by omega) (by omega) b
  have a3 := fun b => allM_iff h (a := k) (x := top) hk (by omega) (by omega) b
  unfold topB InTop
  rw [List.any_eq_true]
  constructor
  · rintro ⟨b, hb, h1⟩
    simp only [Bool.and_eq_true, Bool.or_eq_true, Bool.not_eq_true', Bool.eq_false_iff] at h1
    obtain ⟨⟨⟨h2, h3⟩, h4⟩, h5⟩ := h1
    refine ⟨b, mem_succs.1 (by simpa using h2), (a1 b).1 h3, ⟨(a1 b).1 h3, fun h => h4 ((a2 b).2 h)⟩, ?_⟩
    rcases h5 with h5 | ⟨h5, h6⟩
    · exact .inl (Nat.eq_of_beq_eq_true h5)
    · exact .inr ⟨(a1 k).1 h5, (a3 b).1 h6⟩
  · rintro ⟨b, h1, h2, h3, h4⟩
    refine ⟨b, List.mem_range.2 h2.lt, ?_⟩
    simp only [Bool.and_eq_true, Bool.or_eq_true, Bool.not_eq_true', Bool.eq_false_iff]
    refine ⟨⟨⟨by simpa using mem_succs.2 h1, (a1 b).2 h2⟩, fun h => h3.2 ((a2 b).1 h)⟩, ?_⟩
    rcases h4 with rfl | ⟨h5, h6⟩
    · exact .inl (Nat.beq_refl _)
    · exact .inr ⟨(a1 k).2 h5, (a3 b).2 h6⟩
def depB (ways : List (List Int)) (k : Nat) : Nat := ((List.range ways.length).filter fun t => topB ways (smOf ways) (rchM (smOf ways) 0 (-1)) t k).length
theorem dep_eq {ways : List (List Int)} (h : allM ways = true) {k : Nat} (hk : k < ways.length) : dep ways ways.length k = depB ways k := by
  unfold dep depB
  congr 1
  refine List.filter_congr fun t ht => ?_
  have := topB_iff h (List.mem_range.1 ht) hk
  rw [Bool.eq_iff_iff, this]; simp
theorem headB : allM [[1], [2, 3], [1], []] = true ∧ (List.range 4).map (depB [[1], [2, 3], [1], []]) = [0, 1, 1, 0] := by decide +kernel
end Go.Proofs.Ytgcmcgbkdeealaa
