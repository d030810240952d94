/- Ways out of blocks and into blocks, as they are laid one by one. -/
import Derived.Test.YtfplmdjlgjgbgaaG1
namespace Go.Proofs.Ytfplmdjlgjgbgaa
set_option linter.unusedVariables false
set_option linter.unusedSimpArgs false
open Go

def vld (n : Nat) (t : Int) : Bool := decide (0 ≤ t ∧ t < n)
def waysAt (ways : List (List Int)) (k : Nat) : List Int := (ways[k]?).getD []
/-- Behind the blocks ahead of b, and j ways of b. -/
def oPre (ways : List (List Int)) (b j k : Nat) : List Int := if k < b then (waysAt ways k).filter (vld ways.length) else if k = b then ((waysAt ways k).take j).filter (vld ways.length) else []
def iPre (ways : List (List Int)) (b j k : Nat) : List Int := (List.range b).flatMap (fun c => ((waysAt ways c).filter (· == (k : Int))).map fun _ => (c : Int)) ++ (((waysAt ways b).take j).filter (· == (k : Int))).map fun _ => (b : Int)

def outsOf (ways : List (List Int)) (k : Nat) : List Int := (waysAt ways k).filter (vld ways.length)
def insOf (ways : List (List Int)) (k : Nat) : List Int := (List.range ways.length).flatMap fun c => ((waysAt ways c).filter (· == (k : Int))).map fun _ => (c : Int)

theorem oPre_0 (ways : List (List Int)) (k : Nat) : oPre ways 0 0 k = [] := by unfold oPre; simp
theorem iPre_0 (ways : List (List Int)) (k : Nat) : iPre ways 0 0 k = [] := by unfold iPre; simp
theorem oPre_row {ways : List (List Int)} {b k j : Nat} {l : List Int} (hl : ways[b]? = some l) (hj : l.length ≤ j) : oPre ways b j k = oPre ways (b + 1) 0 k := by
  unfold oPre
  by_cases h1 : k < b
  · rw [if_pos h1, if_pos (by omega)]
  · rw [if_neg h1]
    by_cases h2 : k = b
    · subst h2
      rw [if_pos rfl, if_pos (by omega), List.take_of_length_le]
      simp [waysAt, hl]; exact hj
    · rw [if_neg h2, if_neg (by omega)]
      split <;> simp
theorem iPre_row {ways : List (List Int)} {b k j : Nat} {l : List Int} (hl : ways[b]? = some l) (hj : l.length ≤ j) : iPre ways b j k = iPre ways (b + 1) 0 k := by
  unfold iPre
  rw [List.take_of_length_le (by simp [waysAt, hl]; exact hj), List.range_succ, List.flatMap_append]
  simp
theorem take_at {ways : List (List Int)} {b j : Nat} {l : List Int} {t : Int} (hl : ways[b]? = some l) (ht : l[j]? = some t) : (waysAt ways b).take (j + 1) = (waysAt ways b).take j ++ [t] := by
  obtain ⟨hj, he⟩ := List.getElem?_eq_some_iff.1 ht
  simp only [waysAt, hl, Option.getD_some]
  rw [List.take_succ_eq_append_getElem hj, he]
theorem oPre_ok {ways : List (List Int)} {b j k : Nat} {l : List Int} {t : Int} (hl : ways[b]? = some l) (ht : l[j]? = some t) (hv : vld ways.length t = true) : oPre ways b (j + 1) k = if k = b then oPre ways b j k ++ [t] else oPre ways b j k := by
  unfold oPre
  by_cases h1 : k < b
  · rw [if_pos h1, if_pos h1, if_neg (by omega)]
  · rw [if_neg h1, if_neg h1]
    by_cases h2 : k = b
    · subst h2
      rw [if_pos rfl, if_pos rfl, if_pos rfl, take_at hl ht, List.filter_append]
      simp [hv]
    · rw [if_neg h2, if_neg h2, if_neg h2]
theorem oPre_no {ways : List (List Int)} {b j k : Nat} {l : List Int} {t : Int} (hl : ways[b]? = some l) (ht : l[j]? = some t) (hv : vld ways.length t = false) : oPre ways b (j + 1) k = oPre ways b j k := by
  unfold oPre
  by_cases h1 : k < b
  · rw [if_pos h1, if_pos h1]
  · rw [if_neg h1, if_neg h1]
    by_cases h2 : k = b
    · subst h2
      rw [if_pos rfl, if_pos rfl, take_at hl ht, List.filter_append]
      simp [hv]
    · rw [if_neg h2, if_neg h2]
theorem iPre_ok {ways : List (List Int)} {b j k : Nat} {l : List Int} {t : Int} (hl : ways[b]? = some l) (ht : l[j]? = some t) : iPre ways b (j + 1) k = if (k : Int) = t then iPre ways b j k ++ [(b : Int)] else iPre ways b j k := by
  unfold iPre
  rw [take_at hl ht, List.filter_append, List.map_append, ← List.append_assoc]
  by_cases h : (k : Int) = t
  · rw [if_pos h]; simp [h]
  · rw [if_neg h]
    have : ([t].filter (· == (k : Int))) = [] := by simp; exact fun e => h e.symm
    rw [this]; simp
theorem iPre_no {ways : List (List Int)} {b j k : Nat} {l : List Int} {t : Int} (hl : ways[b]? = some l) (ht : l[j]? = some t) (hk : k < ways.length) (hv : vld ways.length t = false) : iPre ways b (j + 1) k = iPre ways b j k := by
  rw [iPre_ok hl ht, if_neg]
  intro e
  unfold vld at hv
  simp at hv
  omega
theorem oPre_end {ways : List (List Int)} {k : Nat} (hk : k < ways.length) : oPre ways ways.length 0 k = outsOf ways k := by
  unfold oPre outsOf; rw [if_pos hk]
theorem iPre_end {ways : List (List Int)} {k : Nat} : iPre ways ways.length 0 k = insOf ways k := by
  unfold iPre insOf; simp
theorem oPre_len {ways : List (List Int)} {M : Nat} (hM : ∀ l ∈ ways, l.length ≤ M) (b j k : Nat) : (oPre ways b j k).length ≤ M := by
  have hw : (waysAt ways k).length ≤ M := by
    unfold waysAt
    cases h : ways[k]? with
    | none => simp
    | some l => exact hM l (List.mem_of_getElem? h)
  unfold oPre
  split
  · exact Nat.le_trans (List.length_filter_le _ _) hw
  · split
    · refine Nat.le_trans (List.length_filter_le _ _) ?_
      rw [List.length_take]; omega
    · simp
theorem iPre_len {ways : List (List Int)} {M : Nat} (hM : ∀ l ∈ ways, l.length ≤ M) (b j k : Nat) : (iPre ways b j k).length ≤ (b + 1) * M := by
  have hw : ∀ k, (waysAt ways k).length ≤ M := fun k => by
    unfold waysAt
    cases h : ways[k]? with
    | none => simp
    | some l => exact hM l (List.mem_of_getElem? h)
  have h1 : ∀ b, ((List.range b).flatMap (fun c => ((waysAt ways c).filter (· == (k : Int))).map fun _ => (c : Int))).length ≤ b * M := by
    intro b
    induction b with
    | zero => simp
    | succ b ih =>
      rw [List.range_succ, List.flatMap_append, List.length_append, Nat.succ_mul]
      refine Nat.add_le_add ih ?_
      simp only [List.flatMap_cons, List.flatMap_nil, List.append_nil, List.length_map]
      exact Nat.le_trans (List.length_filter_le _ _) (hw b)
  unfold iPre
  rw [List.length_append, Nat.succ_mul, List.length_map]
  refine Nat.add_le_add (h1 b) (Nat.le_trans (List.length_filter_le _ _) ?_)
  rw [List.length_take]
  have := hw b; omega
theorem mem_outs {ways : List (List Int)} {b : Nat} {t : Int} : t ∈ outsOf ways b ↔ 0 ≤ t ∧ E ways b t.toNat := by
  unfold outsOf E waysAt vld
  rw [List.mem_filter]
  cases h : ways[b]? with
  | none => simp
  | some l =>
    simp only [Option.getD_some, Option.some.injEq, decide_eq_true_eq]
    constructor
    · rintro ⟨h1, h2, h3⟩
      exact ⟨h2, l, rfl, by rw [Int.toNat_of_nonneg h2]; exact h1, by omega⟩
    · rintro ⟨h2, l', rfl, h3, h4⟩
      rw [Int.toNat_of_nonneg h2] at h3
      exact ⟨h3, h2, by omega⟩
theorem mem_ins {ways : List (List Int)} {k : Nat} (hk : k < ways.length) {b : Int} : b ∈ insOf ways k ↔ 0 ≤ b ∧ E ways b.toNat k := by
  unfold insOf E waysAt
  rw [List.mem_flatMap]
  constructor
  · rintro ⟨c, hc, hb⟩
    obtain ⟨x, hx, rfl⟩ := List.mem_map.1 hb
    obtain ⟨h1, h2⟩ := List.mem_filter.1 hx
    have h2 : x = (k : Int) := by simpa using h2
    subst h2
    refine ⟨by omega, ?_⟩
    rw [Int.toNat_natCast]
    cases h : ways[c]? with
    | none => rw [h] at h1; simp at h1
    | some l => exact ⟨l, rfl, by rw [h] at h1; simpa using h1, hk⟩
  · rintro ⟨h0, l, hl, h1, _⟩
    refine ⟨b.toNat, List.mem_range.2 (List.getElem?_eq_some_iff.1 hl).1, ?_⟩
    rw [hl]
    refine List.mem_map.2 ⟨(k : Int), List.mem_filter.2 ⟨by simpa using h1, by simp⟩, Int.toNat_of_nonneg h0⟩
end Go.Proofs.Ytfplmdjlgjgbgaa
