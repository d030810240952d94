/- Layer 15: Press is the greatest place, plainly. -/
import Derived.Test.YtfplmdjlgjgbgaaV25
namespace Go.Proofs.Ytfplmdjlgjgbgaa
set_option linter.unusedVariables false
set_option linter.unusedSimpArgs false
open Go Go.RowKit

/-- What one instruction presses. -/
def cardI (us : List Int) (bl : SsaBlock) (out : Int → Bool) (k : Nat) : Nat := cardU us (liveB bl out (k + 1)) + (if (nth bl.fIns.xs k).fDst ≠ 0 ∧ liveB bl out (k + 1) (nth bl.fIns.xs k).fDst = false then 1 else 0)
theorem atS_ub {us : List Int} {bl : SsaBlock} {out : Int → Bool} {s0 m : Nat} (h0 : s0 ≤ m) (h : ∀ k, k < bl.fIns.xs.length → cardI us bl out k ≤ m) : ∀ d r, r + d = bl.fIns.xs.length → atS (pressI us bl) bl out s0 r ≤ m
  | 0, r, hd => by
    obtain rfl : r = bl.fIns.xs.length := by omega
    rw [atS_end]; exact h0
  | d + 1, r, hd => by
    have h1 := atS_ub h0 h d (r + 1) (by omega)
    rw [atS_step (by omega)]
    exact Nat.max_le.2 ⟨h1, h r (by omega)⟩
theorem foldl_ub {α : Type} {g : Nat → α → Nat} {m : Nat} : ∀ {l : List α} {z : Nat}, z ≤ m → (∀ z, z ≤ m → ∀ x ∈ l, g z x ≤ m) → l.foldl g z ≤ m
  | [], z, h, _ => h
  | a :: l, z, h, hg => foldl_ub (l := l) (hg z h a (by simp)) fun z hz x hx => hg z hz x (by simp [hx])
theorem pressF_le {f : SsaFunc} {I O : Nat → Int → Bool} {o : List Int} {m : Nat} : pressF f I O o ≤ m ↔ ∀ q ∈ o, cardU (usP f) (addL (I q.toNat) (nth f.fBlocks.xs q.toNat).fParams.xs) ≤ m ∧ ∀ k, k < (nth f.fBlocks.xs q.toNat).fIns.xs.length → cardI (usP f) (nth f.fBlocks.xs q.toNat) (O q.toNat) k ≤ m := by
  constructor
  · intro h q hq
    obtain ⟨m', hm'⟩ := (foldl_max (g := fun m q => pressB f I O m q.toNat) (fun m x => pressB_ge) (l := o) (m := 0)).2 q hq
    have hm' : pressB f I O m' q.toNat ≤ pressF f I O o := hm'
    have h1 := atS_le (us := usP f) (bl := nth f.fBlocks.xs q.toNat) (out := O q.toNat) (s0 := max m' (cardU (usP f) (addL (I q.toNat) (nth f.fBlocks.xs q.toNat).fParams.xs))) _ 0 (Nat.zero_add _)
    have h2 : atS (pressI (usP f) (nth f.fBlocks.xs q.toNat)) (nth f.fBlocks.xs q.toNat) (O q.toNat) (max m' (cardU (usP f) (addL (I q.toNat) (nth f.fBlocks.xs q.toNat).fParams.xs))) 0 ≤ m := Nat.le_trans hm' h
    exact ⟨Nat.le_trans (Nat.le_trans (Nat.le_max_right _ _) h1.1) h2, fun k hk => Nat.le_trans (h1.2 k (Nat.zero_le _) hk) h2⟩
  · intro h
    exact foldl_ub (Nat.zero_le _) fun z hz q hq => atS_ub (Nat.max_le.2 ⟨hz, (h q hq).1⟩) (h q hq).2 _ 0 (Nat.zero_add _)
section
variable {f : SsaFunc} (hG : GoodF f) {I O : Nat → Int → Bool} (hQ : FixQ f I O)
include hG hQ
theorem GoodF.entry_card {n : Nat} (hn : n < f.fBlocks.xs.length) (hr : nth (reachB7 f) n = true) (hp : (nth f.fBlocks.xs n).fParams.xs.Nodup) : cardU (usP f) (addL (I n) (nth f.fBlocks.xs n).fParams.xs) = (entryR f I n).length := by
  refine (cardU_of (?_ : (entryR f I n).Nodup) (fun k => ?_) fun k hk => ?_).symm
  · unfold entryR
    rw [List.nodup_append]
    refine ⟨hp, hG.nodup.filter _, fun a ha b hb e => ?_⟩
    have := (List.mem_filter.1 hb).2
    rw [← e] at this
    simp [ha] at this
  · rw [setP_ne]
    unfold entryR addL
    rw [List.mem_append, List.mem_filter, Bool.and_eq_true, Bool.not_eq_true', decide_eq_false_iff_not, Bool.or_eq_true, decide_eq_true_eq]
    constructor
    · rintro (h | ⟨_, _, h⟩)
      · exact .inr h
      · exact .inl h
    · rintro (h | h)
      · by_cases hk : k ∈ (nth f.fBlocks.xs n).fParams.xs
        · exact .inl hk
        · exact .inr ⟨(hG.made hQ hn hr).1 k h, hk, h⟩
      · exact .inl h
  · unfold addL at hk
    rw [Bool.or_eq_true, decide_eq_true_eq] at hk
    unfold usP
    rcases hk with hk | hk
    · exact List.mem_append_left _ ((hQ.inv.us n hn k).1 hk)
    · exact List.mem_append_right _ (List.mem_flatMap.2 ⟨_, nth_mem hn, hk⟩)
theorem GoodF.live_made {n : Nat} (hn : n < f.fBlocks.xs.length) (hr : nth (reachB7 f) n = true) {j : Nat} (hj : j ≤ (nth f.fBlocks.xs n).fIns.xs.length) {k : Int} (hk : liveB (nth f.fBlocks.xs n) (O n) j k = true) : k ∈ madeAll f.fBlocks.xs := by
  have hs := hG.knSet hr
  have hu := hG.used n hn
  unfold usedAt at hu
  rw [hs] at hu
  have h1 := liveB_known (l := knB f n) hu (fun k hk => (alive_known hQ hG.ends hG.used (fun b hb hr => hG.reach hb hr) hn hr hs).2 k hk) j hj k hk
  have hm : ∀ k ∈ madeB (nth f.fBlocks.xs n), k ∈ madeAll f.fBlocks.xs := fun k hk => List.mem_flatMap.2 ⟨_, nth_mem hn, hk⟩
  rcases List.mem_append.1 h1 with h1 | h1
  · rcases List.mem_append.1 h1 with h1 | h1
    · obtain ⟨hO, _⟩ := known7_kept hG.ends
      have hp : (known7 f).pos[n]?.join.getD 0 < (known7 f).ls.length := hO.2.1 _ (by
        cases e : (known7 f).pos[n]? with
        | none => rw [e] at hs; cases hs
        | some o => rw [e] at hs; have : o = some _ := hs; exact this ▸ List.mem_of_getElem? e)
      unfold knB at h1
      rw [List.getD_eq_getElem?_getD, List.getElem?_eq_getElem hp] at h1
      exact hO.2.2 _ (List.getElem_mem hp) k h1
    · exact hm k (List.mem_append_left _ h1)
  · refine hm k (List.mem_append_right _ ?_)
    have h2 := dsts_app ((nth f.fBlocks.xs n).fIns.xs.take j) ((nth f.fBlocks.xs n).fIns.xs.drop j)
    rw [List.take_append_drop] at h2
    rw [h2]; exact List.mem_append_left _ h1
theorem GoodF.ins_card {n : Nat} (hn : n < f.fBlocks.xs.length) (hr : nth (reachB7 f) n = true) {k : Nat} (hk : k < (nth f.fBlocks.xs n).fIns.xs.length) : cardI (usP f) (nth f.fBlocks.xs n) (O n) k = (insR f O n k).length := by
  have hlm : ∀ v, liveB (nth f.fBlocks.xs n) (O n) (k + 1) v = true → v ∈ madeAll f.fBlocks.xs := fun v hv => hG.live_made hQ hn hr (by omega) hv
  have h1 : ((madeAll f.fBlocks.xs).filter (liveB (nth f.fBlocks.xs n) (O n) (k + 1))).length = cardU (usP f) (liveB (nth f.fBlocks.xs n) (O n) (k + 1)) := by
    refine cardU_of (hG.nodup.filter _) (fun v => ?_) fun v hv => ?_
    · rw [setP_ne, List.mem_filter]
      exact ⟨fun h => h.2, fun h => ⟨hlm v h, h⟩⟩
    · unfold usP
      refine List.mem_append_left _ ?_
      rcases liveB_in hv with h | h
      · exact (hQ.inv.us n hn v).2 h
      · exact usB_in hn h
  unfold cardI insR
  rw [← h1, List.length_append]
  generalize hd : (nth (nth f.fBlocks.xs n).fIns.xs k).fDst = d
  by_cases h0 : d = 0
  · rw [if_neg (fun h => h.1 h0), if_neg (fun h => h h0), List.length_nil, Nat.zero_add, Nat.add_zero]
    congr 1
    refine List.filter_congr fun v hv => ?_
    have := hG.pos v hv
    have : v ≠ d := by omega
    simp [this]
  · rw [if_pos h0, List.length_singleton]
    by_cases hl : liveB (nth f.fBlocks.xs n) (O n) (k + 1) d = true
    · rw [if_neg (fun h => by rw [hl] at h; exact absurd h.2 (by simp)), Nat.add_zero]
      have hn1 : ((madeAll f.fBlocks.xs).filter (liveB (nth f.fBlocks.xs n) (O n) (k + 1))).Nodup := hG.nodup.filter _
      have hn2 : (d :: (madeAll f.fBlocks.xs).filter fun v => !decide (v = d) && liveB (nth f.fBlocks.xs n) (O n) (k + 1) v).Nodup := List.nodup_cons.2 ⟨fun h => by simpa using (List.mem_filter.1 h).2, hG.nodup.filter _⟩
      have hmm : ∀ v, v ∈ (madeAll f.fBlocks.xs).filter (liveB (nth f.fBlocks.xs n) (O n) (k + 1)) ↔ v ∈ d :: (madeAll f.fBlocks.xs).filter fun v => !decide (v = d) && liveB (nth f.fBlocks.xs n) (O n) (k + 1) v := fun v => by
        rw [List.mem_cons, List.mem_filter, List.mem_filter, Bool.and_eq_true, Bool.not_eq_true', decide_eq_false_iff_not]
        constructor
        · rintro ⟨a, b⟩
          by_cases e : v = d
          · exact .inl e
          · exact .inr ⟨a, e, b⟩
        · rintro (rfl | ⟨a, _, b⟩)
          · exact ⟨hlm _ hl, hl⟩
          · exact ⟨a, b⟩
      have := Nat.le_antisymm (nodup_le hn1 fun v hv => (hmm v).1 hv) (nodup_le hn2 fun v hv => (hmm v).2 hv)
      rw [this, List.length_cons, Nat.add_comm]
    · have hl : liveB (nth f.fBlocks.xs n) (O n) (k + 1) d = false := by simpa using hl
      rw [if_pos ⟨h0, hl⟩, Nat.add_comm]
      congr 2
      refine List.filter_congr fun v hv => ?_
      by_cases e : v = d
      · subst e; simp [hl]
      · simp [e]
end
/-- The rows of places, in order. -/
def rowsB (f : SsaFunc) (I O : Nat → Int → Bool) (n : Nat) : List (List Int) := entryR f I n :: (List.range (nth f.fBlocks.xs n).fIns.xs.length).map (insR f O n)
def rowsF (f : SsaFunc) (I O : Nat → Int → Bool) (N : Nat) : List (List Int) := (List.range N).flatMap fun n => if nth (reachB7 f) n = true then rowsB f I O n else []
theorem rowsF_mem {f : SsaFunc} {I O : Nat → Int → Bool} {N : Nat} {r : List Int} : r ∈ rowsF f I O N ↔ ∃ n, n < N ∧ nth (reachB7 f) n = true ∧ (r = entryR f I n ∨ ∃ k, k < (nth f.fBlocks.xs n).fIns.xs.length ∧ r = insR f O n k) := by
  unfold rowsF
  rw [List.mem_flatMap]
  constructor
  · rintro ⟨n, h1, h2⟩
    split at h2
    · rename_i hr
      refine ⟨n, List.mem_range.1 h1, hr, ?_⟩
      rcases List.mem_cons.1 h2 with h2 | h2
      · exact .inl h2
      · obtain ⟨k, h3, h4⟩ := List.mem_map.1 h2
        exact .inr ⟨k, List.mem_range.1 h3, h4.symm⟩
    · cases h2
  · rintro ⟨n, h1, hr, h2⟩
    refine ⟨n, List.mem_range.2 h1, ?_⟩
    rw [if_pos hr]
    rcases h2 with rfl | ⟨k, h3, rfl⟩
    · exact List.mem_cons_self
    · exact List.mem_cons_of_mem _ (List.mem_map.2 ⟨k, List.mem_range.2 h3, rfl⟩)
section
variable {f : SsaFunc} (hG : GoodF f) {I O : Nat → Int → Bool} (hQ : FixQ f I O) {o : List Int} (hO : OrdG f o)
include hG hQ hO
theorem GoodF.press {m : Nat} : pressF f I O o ≤ m ↔ ∀ r ∈ rowsF f I O f.fBlocks.xs.length, r.length ≤ m := by
  have hpn : ∀ {n}, n < f.fBlocks.xs.length → (nth f.fBlocks.xs n).fParams.xs.Nodup := fun {n} hn => by
    have h := hG.nodup
    unfold madeAll at h
    have h : List.Pairwise (· ≠ ·) (f.fBlocks.xs.flatMap madeB) := h
    rw [List.pairwise_flatMap] at h
    have h := h.1 _ (nth_mem hn)
    unfold madeB at h
    exact (List.pairwise_append.1 h).1
  rw [pressF_le]
  constructor
  · intro h r hrm
    obtain ⟨n, hn, hr, h2⟩ := rowsF_mem.1 hrm
    obtain ⟨h3, h4⟩ := h n ((hO.mem n hn).2 hr)
    rw [Int.toNat_natCast] at h3 h4
    rcases h2 with rfl | ⟨k, hk, rfl⟩
    · rw [← hG.entry_card hQ hn hr (hpn hn)]; exact h3
    · rw [← hG.ins_card hQ hn hr hk]; exact h4 k hk
  · intro h q hq
    obtain ⟨q0, q1⟩ := hO.rng q hq
    have hn : q.toNat < f.fBlocks.xs.length := by omega
    have hr : nth (reachB7 f) q.toNat = true := (hO.mem q.toNat hn).1 (by rw [show ((q.toNat : Nat) : Int) = q by omega]; exact hq)
    refine ⟨?_, fun k hk => ?_⟩
    · rw [hG.entry_card hQ hn hr (hpn hn)]
      exact h _ (rowsF_mem.2 ⟨_, hn, hr, .inl rfl⟩)
    · rw [hG.ins_card hQ hn hr hk]
      exact h _ (rowsF_mem.2 ⟨_, hn, hr, .inr ⟨k, hk, rfl⟩⟩)
theorem GoodF.rows {M : Nat} {R : Int → Option Int} (hP : PickL M (jobsF f I O o) (fun _ => none) R) : ∀ r ∈ rowsF f I O f.fBlocks.xs.length, (∀ v ∈ r, ∃ c : Nat, c < M ∧ R v = some (c : Int)) ∧ r.Pairwise fun x y => R x ≠ R y := fun r hrm => by
  obtain ⟨n, hn, hr, h2⟩ := rowsF_mem.1 hrm
  rcases h2 with rfl | ⟨k, hk, rfl⟩
  · exact hG.entryRow hQ hO hP hn hr
  · exact hG.insRow hQ hO hP hn hr hk
/-- Registers of its own for each: no more than there are. -/
theorem GoodF.pick_press {M : Nat} {R : Int → Option Int} (hP : PickL M (jobsF f I O o) (fun _ => none) R) : pressF f I O o ≤ M := by
  rw [hG.press hQ hO]
  intro r hr
  obtain ⟨h1, h2⟩ := hG.rows hQ hO hP r hr
  have h3 : (r.map fun v => (R v).getD 0).Nodup := by
    show List.Pairwise _ _
    rw [List.pairwise_map]
    refine List.Pairwise.imp_of_mem (fun {x y} hx hy hne e => ?_) h2
    obtain ⟨c, _, hc⟩ := h1 x hx
    obtain ⟨d, _, hd⟩ := h1 y hy
    rw [hc, hd] at e hne
    exact hne (congrArg some e)
  have := nodup_le (us := (List.range M).map fun (c : Nat) => (c : Int)) h3 fun k hk => by
    obtain ⟨v, hv, rfl⟩ := List.mem_map.1 hk
    obtain ⟨c, hc, e⟩ := h1 v hv
    rw [e]
    exact List.mem_map.2 ⟨c, List.mem_range.2 hc, rfl⟩
  simpa using this
end
end Go.Proofs.Ytfplmdjlgjgbgaa
