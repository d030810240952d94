/- Layer 15: registers are there if as many as Press tells; which ones hangs on nothing else. -/
import Derived.Test.YtfplmdjlgjgbgaaV12
namespace Go.Proofs.Ytfplmdjlgjgbgaa
set_option linter.unusedVariables false
set_option linter.unusedSimpArgs false
open Go Go.RowKit

theorem FixQ.closed {f : SsaFunc} {I O : Nat → Int → Bool} (h : FixQ f I O) : ClosedQ f I O := fun b hb => ⟨(h.at_ b hb).2, fun k hk => by rw [(h.at_ b hb).1]; exact hk⟩
theorem FixQ.uniq {f : SsaFunc} {I O I' O' : Nat → Int → Bool} (h : FixQ f I O) (h' : FixQ f I' O') : ∀ b, b < f.fBlocks.xs.length → I b = I' b ∧ O b = O' b := fun b hb => by
  obtain ⟨a1, a2⟩ := h.inv.least I' O' h'.closed b hb
  obtain ⟨c1, c2⟩ := h'.inv.least I O h.closed b hb
  constructor
  · funext k
    rw [Bool.eq_iff_iff]
    exact ⟨a1 k, c1 k⟩
  · funext k
    rw [Bool.eq_iff_iff]
    exact ⟨a2 k, c2 k⟩
theorem OrdF.uniq {f : SsaFunc} {o o' : List Int} (h : OrdF f o) (h' : OrdF f o') : o = o' := by
  rcases h with ⟨h1, rfl⟩ | ⟨h1, fin, ⟨s, hV, rfl⟩, _, rfl⟩
  · rcases h' with ⟨_, rfl⟩ | ⟨h2, _⟩
    · rfl
    · omega
  · rcases h' with ⟨h2, rfl⟩ | ⟨_, fin', ⟨s', hV', rfl⟩, _, rfl⟩
    · omega
    · rw [hV.det hV']
theorem flatMap_on {α β : Type} {f g : α → List β} : ∀ {l : List α}, (∀ x ∈ l, f x = g x) → l.flatMap f = l.flatMap g
  | [], _ => rfl
  | a :: l, h => by rw [List.flatMap_cons, List.flatMap_cons, h a (by simp), flatMap_on fun x hx => h x (by simp [hx])]
theorem foldl_on {α β : Type} {f g : β → α → β} : ∀ {l : List α} {b : β}, (∀ b, ∀ x ∈ l, f b x = g b x) → l.foldl f b = l.foldl g b
  | [], _, _ => rfl
  | a :: l, b, h => by rw [List.foldl_cons, List.foldl_cons, h b a (by simp), foldl_on fun b x hx => h b x (by simp [hx])]
theorem jobsF_uniq {f : SsaFunc} {I O I' O' : Nat → Int → Bool} {o o' : List Int} (h : FixQ f I O) (h' : FixQ f I' O') (ho : OrdF f o) (ho' : OrdF f o') : jobsF f I O o = jobsF f I' O' o' := by
  obtain rfl := ho.uniq ho'
  unfold jobsF
  refine flatMap_on fun q hq => ?_
  obtain ⟨h1, h2⟩ := ho.at.1 q hq
  obtain ⟨e1, e2⟩ := h.uniq h' q.toNat (by omega)
  rw [e1, e2]
theorem pressF_uniq {f : SsaFunc} {I O I' O' : Nat → Int → Bool} {o o' : List Int} (h : FixQ f I O) (h' : FixQ f I' O') (ho : OrdF f o) (ho' : OrdF f o') : pressF f I O o = pressF f I' O' o' := by
  obtain rfl := ho.uniq ho'
  unfold pressF
  refine foldl_on fun m q hq => ?_
  obtain ⟨h1, h2⟩ := ho.at.1 q hq
  obtain ⟨e1, e2⟩ := h.uniq h' q.toNat (by omega)
  unfold pressB
  rw [e1, e2]
theorem PickR.det {M M' : Nat} {R R1 R2 : Int → Option Int} {p : Int → Bool} {v : Int} (h : PickR M R p v R1) (h' : PickR M' R p v R2) : R1 = R2 := by
  obtain ⟨c, a1, a2, a3, rfl⟩ := h
  obtain ⟨d, b1, b2, b3, rfl⟩ := h'
  rcases Nat.lt_trichotomy c d with h | h | h
  · exact absurd (b3 c h) a2
  · rw [h]
  · exact absurd (a3 d h) b2
/-- Which registers, hangs not on how many there are. -/
theorem PickL.det {M M' : Nat} {l : List (Int × (Int → Bool))} {R R1 R2 : Int → Option Int} (h : PickL M l R R1) (h' : PickL M' l R R2) : R1 = R2 := by
  induction h generalizing R2 with
  | nil => cases h'; rfl
  | cons a _ ih =>
    cases h' with
    | cons b k =>
      obtain rfl := a.det b
      exact ih k
theorem atS_le {us : List Int} {bl : SsaBlock} {out : Int → Bool} {s0 : Nat} : ∀ d r, r + d = bl.fIns.xs.length → s0 ≤ atS (pressI us bl) bl out s0 r ∧ ∀ k, r ≤ k → k < bl.fIns.xs.length → cardU us (liveB bl out (k + 1)) + (if (nth bl.fIns.xs k).fDst ≠ 0 ∧ liveB bl out (k + 1) (nth bl.fIns.xs k).fDst = false then 1 else 0) ≤ atS (pressI us bl) bl out s0 r
  | 0, r, hd => by
    obtain rfl : r = bl.fIns.xs.length := by omega
    rw [atS_end]
    exact ⟨Nat.le_refl _, fun k h1 h2 => by omega⟩
  | d + 1, r, hd => by
    obtain ⟨h1, h2⟩ := atS_le (us := us) (bl := bl) (out := out) (s0 := s0) d (r + 1) (by omega)
    rw [atS_step (by omega)]
    generalize atS (pressI us bl) bl out s0 (r + 1) = z at h1 h2 ⊢
    unfold pressI
    refine ⟨Nat.le_trans h1 (Nat.le_max_left _ _), fun k hk1 hk2 => ?_⟩
    rcases Nat.lt_or_ge r k with h | h
    · exact Nat.le_trans (h2 k h hk2) (Nat.le_max_left _ _)
    · obtain rfl : k = r := by omega
      exact Nat.le_max_right _ _
theorem foldl_max {α : Type} {g : Nat → α → Nat} (hg : ∀ m x, m ≤ g m x) : ∀ {l : List α} {m : Nat}, m ≤ l.foldl g m ∧ ∀ x ∈ l, ∃ m', g m' x ≤ l.foldl g m
  | [], m => ⟨Nat.le_refl _, fun x hx => nomatch hx⟩
  | a :: l, m => by
    rw [List.foldl_cons]
    obtain ⟨h1, h2⟩ := foldl_max hg (l := l) (m := g m a)
    refine ⟨Nat.le_trans (hg m a) h1, fun x hx => ?_⟩
    rcases List.mem_cons.1 hx with rfl | hx
    · exact ⟨m, h1⟩
    · exact h2 x hx
theorem pressB_ge {f : SsaFunc} {I O : Nat → Int → Bool} {m q : Nat} : m ≤ pressB f I O m q := by
  unfold pressB
  exact Nat.le_trans (Nat.le_max_left _ _) (atS_le _ 0 (Nat.zero_add _)).1
theorem card_no {M : Nat} {R : Int → Option Int} {p : Int → Bool} {v : Int} {us : List Int} (h : PickNo M R p v) (hu : ∀ k, p k = true → k ∈ us) : M + (if p v = true then 1 else 0) ≤ cardU us p := by
  have hn : ((dd us).filter p).Nodup := (dd_nodup us).filter _
  have hm : ∀ k, p k = true → k ∈ (dd us).filter p := fun k hk => List.mem_filter.2 ⟨dd_mem.2 (hu k hk), hk⟩
  unfold cardU
  by_cases hv : p v = true
  · rw [if_pos hv]
    have h1 := h.card (us := ((dd us).filter p).erase v) fun k hk hne => (List.mem_erase_of_ne hne).2 (hm k hk)
    have h2 := List.length_erase_of_mem (hm v hv)
    have h3 := List.length_pos_of_mem (hm v hv)
    omega
  · rw [if_neg hv]
    exact h.card fun k hk _ => hm k hk
theorem jobs_mem {bl : SsaBlock} {inn out : Int → Bool} {v : Int} {p : Int → Bool} (h : (v, p) ∈ jobsB bl inn out) : (v ∈ bl.fParams.xs ∧ p = addL inn bl.fParams.xs) ∨ ∃ k, k < bl.fIns.xs.length ∧ v = (nth bl.fIns.xs k).fDst ∧ v ≠ 0 ∧ p = liveB bl out (k + 1) := by
  unfold jobsB at h
  rcases List.mem_append.1 h with h | h
  · obtain ⟨a, ha, e⟩ := List.mem_map.1 h
    have e1 := congrArg Prod.fst e
    have e2 := congrArg Prod.snd e
    exact .inl ⟨(show a = v from e1) ▸ ha, e2.symm⟩
  · unfold jobsI at h
    obtain ⟨k, hk, h⟩ := List.mem_flatMap.1 h
    split at h
    · cases h
    · rename_i hz
      rw [List.mem_singleton] at h
      have e1 := congrArg Prod.fst h
      have e2 := congrArg Prod.snd h
      exact .inr ⟨k, List.mem_range.1 hk, e1, (show v = _ from e1) ▸ hz, e2⟩
/-- As many registers as Press tells are enough. -/
theorem press_enough {f : SsaFunc} {I O : Nat → Int → Bool} {o : List Int} (hQ : FixQ f I O) (ho : OrdF f o) {M : Nat} (hM : pressF f I O o ≤ M) {R : Int → Option Int} : ¬ PickF M (jobsF f I O o) R := by
  rintro ⟨pre, v, p, post, R1, h1, h2, h3⟩
  have hm : (v, p) ∈ jobsF f I O o := by rw [h1]; simp
  unfold jobsF at hm
  obtain ⟨q, hq, hm⟩ := List.mem_flatMap.1 hm
  obtain ⟨q1, q2⟩ := ho.at.1 q hq
  have hqn : q.toNat < f.fBlocks.xs.length := by omega
  obtain ⟨m', hm'⟩ := (foldl_max (g := fun m q => pressB f I O m q.toNat) (fun m x => pressB_ge) (l := o) (m := 0)).2 q hq
  have hm' : pressB f I O m' q.toNat ≤ pressF f I O o := hm'
  have hbm : nth f.fBlocks.xs q.toNat ∈ f.fBlocks.xs := nth_mem hqn
  have husB : ∀ k, k ∈ usB (nth f.fBlocks.xs q.toNat) → k ∈ usU f := fun k hk => List.mem_flatMap.2 ⟨_, hbm, hk⟩
  obtain ⟨u1, u2⟩ := atS_le (us := usP f) (bl := nth f.fBlocks.xs q.toNat) (out := O q.toNat) (s0 := max m' (cardU (usP f) (addL (I q.toNat) (nth f.fBlocks.xs q.toNat).fParams.xs))) _ 0 (Nat.zero_add _)
  have hP : atS (pressI (usP f) (nth f.fBlocks.xs q.toNat)) (nth f.fBlocks.xs q.toNat) (O q.toNat) (max m' (cardU (usP f) (addL (I q.toNat) (nth f.fBlocks.xs q.toNat).fParams.xs))) 0 ≤ M := Nat.le_trans hm' hM
  rcases jobs_mem hm with ⟨g1, rfl⟩ | ⟨k, g1, g2, g3, rfl⟩
  · have h4 := card_no h3 (us := usP f) fun k hk => by
      unfold addL at hk
      rw [Bool.or_eq_true, decide_eq_true_eq] at hk
      unfold usP
      rcases hk with hk | hk
      · exact List.mem_append_left _ ((hQ.inv.us q.toNat hqn k).1 hk)
      · exact List.mem_append_right _ (List.mem_flatMap.2 ⟨_, hbm, hk⟩)
    rw [if_pos (by unfold addL; simp [g1])] at h4
    have h5 := Nat.le_max_right m' (cardU (usP f) (addL (I q.toNat) (nth f.fBlocks.xs q.toNat).fParams.xs))
    omega
  · have h4 := card_no h3 (us := usP f) fun j hj => by
      unfold usP
      refine List.mem_append_left _ ?_
      rcases liveB_in hj with hj | hj
      · exact (hQ.inv.us q.toNat hqn j).2 hj
      · exact husB j hj
    have h5 := u2 k (Nat.zero_le _) g1
    rw [← g2] at h5
    cases hv : liveB (nth f.fBlocks.xs q.toNat) (O q.toNat) (k + 1) v with
    | true =>
      rw [if_pos hv] at h4
      omega
    | false =>
      rw [if_pos ⟨g3, hv⟩] at h5
      omega
end Go.Proofs.Ytfplmdjlgjgbgaa
