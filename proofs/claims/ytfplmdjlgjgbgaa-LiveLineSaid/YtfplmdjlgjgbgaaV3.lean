/- Layer 15: which values are used later, plainly. -/
import Derived.Test.YtfplmdjlgjgbgaaV2
namespace Go.Proofs.Ytfplmdjlgjgbgaa
set_option linter.unusedVariables false
set_option linter.unusedSimpArgs false
open Go Go.RowKit

theorem addL_mono {p q : Int → Bool} {l : List Int} (h : ∀ k, p k = true → q k = true) (k : Int) (hk : addL p l k = true) : addL q l k = true := by
  unfold addL at hk ⊢
  rw [Bool.or_eq_true] at hk ⊢
  exact hk.imp (h k) id
theorem stepI_mono {i : SsaIns} {p q : Int → Bool} (h : ∀ k, p k = true → q k = true) : ∀ k, stepI i p k = true → stepI i q k = true := by
  unfold stepI
  refine addL_mono fun k hk => ?_
  rw [Bool.and_eq_true] at hk ⊢
  exact ⟨h k hk.1, hk.2⟩
theorem foldI_mono {p q : Int → Bool} (h : ∀ k, p k = true → q k = true) : ∀ (is : List SsaIns) k, is.foldr stepI p k = true → is.foldr stepI q k = true
  | [], k, hk => h k hk
  | i :: is, k, hk => stepI_mono (foldI_mono h is) k hk
theorem liveB_mono {b : SsaBlock} {p q : Int → Bool} (h : ∀ k, p k = true → q k = true) (r : Nat) (k : Int) (hk : liveB b p r k = true) : liveB b q r k = true := foldI_mono (fun k hk => addL_mono h k hk) _ k hk
theorem foldI_in {p : Int → Bool} : ∀ (is : List SsaIns) k, is.foldr stepI p k = true → p k = true ∨ k ∈ is.flatMap (·.fArgs.xs)
  | [], k, hk => .inl hk
  | i :: is, k, hk => by
    have hk : stepI i (is.foldr stepI p) k = true := hk
    unfold stepI addL at hk
    rw [Bool.or_eq_true, Bool.and_eq_true, decide_eq_true_eq] at hk
    rcases hk with ⟨hk, _⟩ | hk
    · rcases foldI_in is k hk with h | h
      · exact .inl h
      · exact .inr (by rw [List.flatMap_cons]; exact List.mem_append_right _ h)
    · exact .inr (by rw [List.flatMap_cons]; exact List.mem_append_left _ hk)
def usB (b : SsaBlock) : List Int := usesE b.fEnd ++ b.fIns.xs.flatMap (·.fArgs.xs)
def usU (f : SsaFunc) : List Int := f.fBlocks.xs.flatMap usB
theorem liveB_in {b : SsaBlock} {p : Int → Bool} {r : Nat} {k : Int} (h : liveB b p r k = true) : p k = true ∨ k ∈ usB b := by
  unfold liveB at h
  rcases foldI_in _ k h with h | h
  · unfold addL at h
    rw [Bool.or_eq_true, decide_eq_true_eq] at h
    exact h.imp id fun h => List.mem_append_left _ h
  · refine .inr (List.mem_append_right _ ?_)
    rw [← List.take_append_drop r b.fIns.xs, List.flatMap_append]
    exact List.mem_append_right _ h
theorem usB_in {f : SsaFunc} {b : Nat} (hb : b < f.fBlocks.xs.length) {k : Int} (h : k ∈ usB (nth f.fBlocks.xs b)) : k ∈ usU f := List.mem_flatMap.2 ⟨_, nth_mem hb, h⟩
/-- What comes to a block's end from the next ones. -/
def Ctr (f : SsaFunc) (I : Nat → Int → Bool) (b : Nat) (k : Int) : Prop := ∃ w ∈ (nth f.fBlocks.xs b).fEnd.fWays.xs, 0 ≤ w.fTo ∧ w.fTo < f.fBlocks.xs.length ∧ I w.fTo.toNat k = true ∧ k ∉ (nth f.fBlocks.xs w.fTo.toNat).fParams.xs
def ClosedQ (f : SsaFunc) (I O : Nat → Int → Bool) : Prop := ∀ b, b < f.fBlocks.xs.length → (∀ k, Ctr f I b k → O b k = true) ∧ ∀ k, backP (nth f.fBlocks.xs b) (O b) k = true → I b k = true
structure InvQ (f : SsaFunc) (I O : Nat → Int → Bool) : Prop where
  sound : ∀ b, b < f.fBlocks.xs.length → ∀ k, O b k = true → Ctr f I b k
  low : ∀ b, b < f.fBlocks.xs.length → ∀ k, I b k = true → backP (nth f.fBlocks.xs b) (O b) k = true
  least : ∀ I' O', ClosedQ f I' O' → ∀ b, b < f.fBlocks.xs.length → (∀ k, I b k = true → I' b k = true) ∧ ∀ k, O b k = true → O' b k = true
  us : ∀ b, b < f.fBlocks.xs.length → ∀ k, (I b k = true → k ∈ usU f) ∧ (O b k = true → k ∈ usU f)
theorem Ctr.mono {f : SsaFunc} {I I' : Nat → Int → Bool} (h : ∀ b, b < f.fBlocks.xs.length → ∀ k, I b k = true → I' b k = true) {b : Nat} {k : Int} (hc : Ctr f I b k) : Ctr f I' b k := by
  obtain ⟨w, h1, h2, h3, h4, h5⟩ := hc
  exact ⟨w, h1, h2, h3, h _ (by omega) k h4, h5⟩
def updB {α : Type} (F : Nat → α) (b : Nat) (x : α) : Nat → α := fun j => if j = b then x else F j
theorem updB_same {α : Type} {F : Nat → α} {b : Nat} {x : α} : updB F b x b = x := if_pos rfl
theorem updB_ne {α : Type} {F : Nat → α} {b j : Nat} {x : α} (h : j ≠ b) : updB F b x j = F j := if_neg h
theorem updB_self {α : Type} {F : Nat → α} {b : Nat} : updB F b (F b) = F := by funext j; unfold updB; split <;> simp [*]
theorem InvQ.zero (f : SsaFunc) : InvQ f (fun _ _ => false) (fun _ _ => false) := ⟨fun _ _ _ h => (by cases h), fun _ _ _ h => (by cases h), fun _ _ _ _ _ => ⟨fun _ h => (by cases h), fun _ h => (by cases h)⟩, fun _ _ _ => ⟨fun h => (by cases h), fun h => (by cases h)⟩⟩
/-- One value more behind a block. -/
theorem InvQ.put {f : SsaFunc} {I O : Nat → Int → Bool} (h : InvQ f I O) {b : Nat} (hb : b < f.fBlocks.xs.length) {k : Int} (hk : Ctr f I b k) : InvQ f I (updB O b fun j => O b j || decide (j = k)) := by
  refine ⟨fun c hc j hj => ?_, fun c hc j hj => ?_, fun I' O' hcl c hc => ⟨fun j hj => (h.least I' O' hcl c hc).1 j hj, fun j hj => ?_⟩, fun c hc j => ⟨(h.us c hc j).1, fun hj => ?_⟩⟩
  · by_cases e : c = b
    · subst e
      rw [updB_same, Bool.or_eq_true, decide_eq_true_eq] at hj
      rcases hj with hj | rfl
      · exact h.sound c hc j hj
      · exact hk
    · rw [updB_ne e] at hj; exact h.sound c hc j hj
  · by_cases e : c = b
    · subst e
      rw [updB_same]
      exact liveB_mono (fun q hq => by rw [hq]; rfl) 0 j (h.low c hc j hj)
    · rw [updB_ne e]; exact h.low c hc j hj
  · by_cases e : c = b
    · subst e
      rw [updB_same, Bool.or_eq_true, decide_eq_true_eq] at hj
      rcases hj with hj | rfl
      · exact (h.least I' O' hcl c hc).2 j hj
      · exact (hcl c hc).1 j (hk.mono fun d hd q hq => (h.least I' O' hcl d hd).1 q hq)
    · rw [updB_ne e] at hj; exact (h.least I' O' hcl c hc).2 j hj
  · by_cases e : c = b
    · subst e
      rw [updB_same, Bool.or_eq_true, decide_eq_true_eq] at hj
      rcases hj with hj | rfl
      · exact (h.us c hc j).2 hj
      · obtain ⟨w, _, h2, h3, h4, _⟩ := hk
        exact (h.us _ (by omega) j).1 h4
    · rw [updB_ne e] at hj; exact (h.us c hc j).2 hj
/-- A block's set, reckoned again. -/
theorem InvQ.back {f : SsaFunc} {I O : Nat → Int → Bool} (h : InvQ f I O) {b : Nat} (hb : b < f.fBlocks.xs.length) : InvQ f (updB I b (backP (nth f.fBlocks.xs b) (O b))) O := by
  have hmono : ∀ c, c < f.fBlocks.xs.length → ∀ k, I c k = true → updB I b (backP (nth f.fBlocks.xs b) (O b)) c k = true := fun c hc k hk => by
    by_cases e : c = b
    · subst e; rw [updB_same]; exact h.low c hc k hk
    · rw [updB_ne e]; exact hk
  refine ⟨fun c hc j hj => (h.sound c hc j hj).mono hmono, fun c hc j hj => ?_, fun I' O' hcl c hc => ⟨fun j hj => ?_, (h.least I' O' hcl c hc).2⟩, fun c hc j => ⟨fun hj => ?_, (h.us c hc j).2⟩⟩
  · by_cases e : c = b
    · subst e; rw [updB_same] at hj; exact hj
    · rw [updB_ne e] at hj; exact h.low c hc j hj
  · by_cases e : c = b
    · subst e; rw [updB_same] at hj
      exact (hcl c hc).2 j (liveB_mono (h.least I' O' hcl c hc).2 0 j hj)
    · rw [updB_ne e] at hj; exact (h.least I' O' hcl c hc).1 j hj
  · by_cases e : c = b
    · subst e; rw [updB_same] at hj
      rcases liveB_in hj with h1 | h1
      · exact (h.us c hc j).2 h1
      · exact usB_in hc h1
    · rw [updB_ne e] at hj; exact (h.us c hc j).1 hj
/-- How many. -/
def dd : List Int → List Int
  | [] => []
  | k :: l => if k ∈ dd l then dd l else k :: dd l
theorem dd_mem {l : List Int} {k : Int} : k ∈ dd l ↔ k ∈ l := by
  induction l with
  | nil => rfl
  | cons a l ih =>
    unfold dd
    split
    · rename_i h
      rw [ih, List.mem_cons]
      exact ⟨.inr, fun h2 => h2.elim (fun e => e ▸ ih.1 (by rw [e]; exact h)) id⟩
    · rw [List.mem_cons, List.mem_cons, ih]
theorem dd_nodup (l : List Int) : (dd l).Nodup := by
  induction l with
  | nil => exact List.nodup_nil
  | cons a l ih =>
    unfold dd
    split
    · exact ih
    · rename_i h; exact List.nodup_cons.2 ⟨h, ih⟩
def cardU (us : List Int) (p : Int → Bool) : Nat := ((dd us).filter p).length
theorem cardU_of {us ks : List Int} {p : Int → Bool} (hn : ks.Nodup) (hm : ∀ k, k ∈ ks ↔ setP p k ≠ none) (hu : ∀ k, p k = true → k ∈ us) : ks.length = cardU us p := by
  have hm' : ∀ k, k ∈ ks ↔ p k = true := fun k => (hm k).trans (setP_ne p k)
  have h2 : ∀ k, k ∈ (dd us).filter p ↔ p k = true := fun k => by
    rw [List.mem_filter, dd_mem]
    exact ⟨fun h => h.2, fun h => ⟨hu k h, h⟩⟩
  have hnf : ((dd us).filter p).Nodup := (dd_nodup us).filter _
  unfold cardU
  exact Nat.le_antisymm (nodup_le hn fun k hk => (h2 k).2 ((hm' k).1 hk)) (nodup_le hnf fun k hk => (hm' k).2 ((h2 k).1 hk))
theorem cardU_le (us : List Int) (p : Int → Bool) : cardU us p ≤ (dd us).length := List.length_filter_le _ _
theorem filter_le {p q : Int → Bool} (h : ∀ k, p k = true → q k = true) : ∀ l : List Int, (l.filter p).length ≤ (l.filter q).length ∧ ((l.filter p).length = (l.filter q).length → ∀ k ∈ l, p k = q k)
  | [] => ⟨Nat.le_refl _, fun _ k hk => by cases hk⟩
  | a :: l => by
    obtain ⟨h1, h2⟩ := filter_le h l
    rw [List.filter_cons, List.filter_cons]
    cases hp : p a with
    | true =>
      rw [h a hp]
      refine ⟨by simpa using h1, fun e k hk => ?_⟩
      rcases List.mem_cons.1 hk with rfl | hk
      · rw [hp, h k hp]
      · exact h2 (by simpa using e) k hk
    | false =>
      cases hq : q a with
      | true => 
        refine ⟨by simp; omega, fun e => ?_⟩
        simp at e
        omega
      | false =>
        refine ⟨by simpa using h1, fun e k hk => ?_⟩
        rcases List.mem_cons.1 hk with rfl | hk
        · rw [hp, hq]
        · exact h2 (by simpa using e) k hk
theorem cardU_mono {us : List Int} {p q : Int → Bool} (h : ∀ k, p k = true → q k = true) : cardU us p ≤ cardU us q := (filter_le h _).1
theorem cardU_eq {us : List Int} {p q : Int → Bool} (h : ∀ k, p k = true → q k = true) (hu : ∀ k, q k = true → k ∈ us) (e : cardU us p = cardU us q) : p = q := by
  funext k
  by_cases hk : k ∈ us
  · exact (filter_le h _).2 e k (dd_mem.2 hk)
  · cases hp : p k with
    | true => exact absurd (hu k (h k hp)) hk
    | false =>
      cases hq : q k with
      | true => exact absurd (hu k hq) hk
      | false => rfl
end Go.Proofs.Ytfplmdjlgjgbgaa
