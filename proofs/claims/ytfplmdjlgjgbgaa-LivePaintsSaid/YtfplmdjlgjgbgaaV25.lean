/- Layer 15: what is at one place has registers of its own, plainly. -/
import Derived.Test.YtfplmdjlgjgbgaaV24
namespace Go.Proofs.Ytfplmdjlgjgbgaa
set_option linter.unusedVariables false
set_option linter.unusedSimpArgs false
open Go Go.RowKit

/-! ### what is known lies ahead -/
def Zero7 (s : Kn7) : Prop := s.pos[0]?.join = none ∨ ∃ p, s.pos[0]?.join = some p ∧ p < s.ls.length ∧ s.ls.getD p [] = []
theorem getD_app {α : Type} {ls : List (List α)} {x : List (List α)} {p : Nat} (h : p < ls.length) : (ls ++ x).getD p [] = ls.getD p [] := by
  rw [List.getD_eq_getElem?_getD, List.getElem?_append_left h, ← List.getD_eq_getElem?_getD]
theorem meet7_zero {s : Kn7} {n q : Nat} (hn : n ≠ 0) (h : Zero7 s) : Zero7 (meet7 s n q).2 := by
  unfold meet7
  split
  · have e : (s.pos.set n (some q))[0]? = s.pos[0]? := List.getElem?_set_ne hn
    rcases h with h | ⟨p, h1, h2⟩
    · exact .inl (by show (s.pos.set n (some q))[0]?.join = none; rw [e]; exact h)
    · exact .inr ⟨p, by show (s.pos.set n (some q))[0]?.join = some p; rw [e]; exact h1, h2⟩
  · rename_i p' hp'
    split
    · exact h
    · rcases h with h | ⟨p, h1, h2, h3⟩
      · exact .inl h
      · refine .inr ⟨p, h1, by show p < (s.ls.set _ _).length; rw [List.length_set]; exact h2, ?_⟩
        show (s.ls.set p' _).getD p [] = []
        rw [List.getD_eq_getElem?_getD]
        by_cases e : p' = p
        · subst e
          rw [List.getElem?_set_self h2, h3]
          rfl
        · rw [List.getElem?_set_ne e, ← List.getD_eq_getElem?_getD, h3]
theorem ways7_zero {q : Nat} : ∀ {ws : List SsaEdge} {s : Bool × Kn7}, (∀ w ∈ ws, w.fTo.toNat ≠ 0) → Zero7 s.2 → Zero7 (ways7 q ws s).2
  | [], _, _, h => h
  | w :: ws, s, hw, h => ways7_zero (ws := ws) (s := ((meet7 s.2 w.fTo.toNat q).1 || s.1, (meet7 s.2 w.fTo.toNat q).2)) (fun u hu => hw u (by simp [hu])) (meet7_zero (hw w (by simp)) h)
theorem in7_zero {f : SsaFunc} {n q : Nat} {s : Kn7} (h : Zero7 s) : Zero7 (in7 f n q s) := by
  rcases h with h | ⟨p, h1, h2, h3⟩
  · exact .inl h
  · exact .inr ⟨p, h1, by show p < (s.ls ++ _).length; rw [List.length_append]; omega, by show (s.ls ++ _).getD p [] = []; rw [getD_app h2, h3]⟩
theorem blk7_zero {f : SsaFunc} {r : List Bool} {n : Nat} {s : Bool × Kn7} (hw : ∀ w ∈ waysQ f n, w.fTo.toNat ≠ 0) (hn : n < s.2.pos.length) (h : Zero7 s.2) : Zero7 (blk7 f r n s).2 := by
  by_cases hc : nth r n = false ∨ (0 < n ∧ s.2.pos[n]?.join = none)
  · rw [blk7_skip hc]; exact h
  · have hr : nth r n = true := by
      cases e : nth r n with
      | true => rfl
      | false => exact absurd (.inl e) hc
    cases hq : s.2.pos[n]?.join with
    | none =>
      have h0 : n = 0 := by
        rcases Nat.eq_zero_or_pos n with h | h
        · exact h
        · exact absurd (.inr ⟨h, hq⟩) hc
      rw [blk7_new hn hr h0 hq]
      refine ways7_zero (fun w hw' => hw w hw') (in7_zero (.inr ⟨s.2.ls.length, ?_, ?_, ?_⟩))
      · subst h0
        show (s.2.pos.set 0 (some s.2.ls.length))[0]?.join = _
        rw [List.getElem?_set_self hn]; rfl
      · show _ < (s.2.ls ++ [[]]).length
        simp
      · show (s.2.ls ++ [[]]).getD s.2.ls.length [] = []
        rw [List.getD_eq_getElem?_getD, List.getElem?_append_right (Nat.le_refl _)]; simp
    | some q =>
      rw [blk7_old hr hq]
      exact ways7_zero (fun w hw' => hw w hw') (in7_zero h)
theorem round7_zero {f : SsaFunc} {r : List Bool} (he : ∀ i, i < f.fBlocks.xs.length → endsB f (nth f.fBlocks.xs i).fEnd = true) : ∀ {n : Nat} {s : Bool × Kn7}, n ≤ f.fBlocks.xs.length → Ok7 f s.2 → Zero7 s.2 → Zero7 (round7 f r n s).2
  | 0, _, _, _, h => h
  | n + 1, s, hn, ho, h => by
    have h1 := round7_left (r := r) (n := n) (s := s) he (by omega) ho
    exact blk7_zero (fun w hw => by have := ends_to (he n (by omega)) hw; omega) (by rw [h1.1.1]; omega) (round7_zero he (by omega) ho h)
theorem fix7_zero {f : SsaFunc} {r : List Bool} (he : ∀ i, i < f.fBlocks.xs.length → endsB f (nth f.fBlocks.xs i).fEnd = true) : ∀ {k : Nat} {s : Kn7}, Ok7 f s → Zero7 s → Zero7 (fix7 f r k s)
  | 0, _, _, h => h
  | k + 1, s, ho, h => by
    have h1 := round7_left (r := r) (s := (false, s)) he (Nat.le_refl _) ho
    have h2 := round7_zero (r := r) (s := (false, s)) he (Nat.le_refl _) ho h
    unfold fix7
    cases ht : (round7 f r f.fBlocks.xs.length (false, s)).1 with
    | true => simp only [ht, if_true]; exact fix7_zero he h1.1 h2
    | false => simp only [ht]; exact h2
theorem known7_zero {f : SsaFunc} (he : ∀ i, i < f.fBlocks.xs.length → endsB f (nth f.fBlocks.xs i).fEnd = true) : Zero7 (known7 f) := by
  refine fix7_zero he ⟨List.length_replicate, fun q hq => ?_, fun l hl => (by cases hl)⟩ (.inl ?_)
  · have := List.eq_of_mem_replicate hq
    cases this
  · show (List.replicate f.fBlocks.xs.length (none : Option Nat))[0]?.join = none
    rw [List.getElem?_replicate]
    split <;> rfl
/-- What a block's set holds. -/
def knB (f : SsaFunc) (b : Nat) : List Int := (known7 f).ls.getD ((known7 f).pos[b]?.join.getD 0) []
def madeO (f : SsaFunc) (o : List Int) : List Int := o.flatMap fun q => madeB (nth f.fBlocks.xs q.toNat)
section
variable {f : SsaFunc} (hG : GoodF f)
include hG
theorem GoodF.knSet {b : Nat} (hr : nth (reachB7 f) b = true) : (known7 f).pos[b]?.join = some ((known7 f).pos[b]?.join.getD 0) := by
  obtain ⟨p, h⟩ := hG.set hr
  rw [h]; rfl
theorem GoodF.knStep {b : Nat} (hb : b < f.fBlocks.xs.length) (hr : nth (reachB7 f) b = true) {w : SsaEdge} (hw : w ∈ waysQ f b) : ∀ k ∈ knB f w.fTo.toNat, k ∈ knB f b ++ madeB (nth f.fBlocks.xs b) := fun k hk => by
  obtain ⟨p, h1, h2⟩ := (known7_kept hG.ends).2 b hb hr (.inr (by rw [hG.knSet hr]; simp))
  obtain ⟨p', h3, h4⟩ := h2 w hw
  have hk : k ∈ (known7 f).ls.getD p' [] := by
    unfold knB at hk
    rw [h3] at hk; exact hk
  have : knB f b = (known7 f).ls.getD p [] := by unfold knB; rw [h1]; rfl
  rw [this]
  exact List.mem_append.2 (h4 k hk)
theorem GoodF.knZero : knB f 0 = [] := by
  rcases known7_zero hG.ends with h | ⟨p, h1, _, h2⟩
  · have := hG.knSet (reach7_ok hG.n0).1
    rw [h] at this; cases this
  · unfold knB
    rw [h1]; exact h2
/-- What is known at a block is made in blocks that lie ahead. -/
theorem GoodF.ahead {o : List Int} (hO : OrdG f o) : ∀ m pre b post, pre.length ≤ m → o = pre ++ b :: post → ∀ k ∈ knB f b.toNat, k ∈ madeO f pre := by
  intro m
  induction m with
  | zero =>
    intro pre b post hm e k hk
    rcases hO.up pre b post e with ⟨_, h⟩ | ⟨a, ha, _⟩
    · subst h
      rw [show (0 : Int).toNat = 0 from rfl, hG.knZero] at hk
      cases hk
    · cases pre with
      | nil => cases ha
      | cons a l => simp at hm
  | succ m ih =>
    intro pre b post hm e k hk
    rcases hO.up pre b post e with ⟨_, h⟩ | ⟨a, ha, w, hw, hwb⟩
    · subst h
      rw [show (0 : Int).toNat = 0 from rfl, hG.knZero] at hk
      cases hk
    · obtain ⟨p1, p2, rfl⟩ := List.append_of_mem ha
      have ham : a ∈ o := by rw [e]; simp
      obtain ⟨a0, a1⟩ := hO.rng a ham
      have har : nth (reachB7 f) a.toNat = true := (hO.mem a.toNat (by omega)).1 (by rw [show ((a.toNat : Nat) : Int) = a by omega]; exact ham)
      have h1 := hG.knStep (by omega) har hw k (by rw [hwb]; exact hk)
      have hm' : p1.length ≤ m := by simp at hm; omega
      unfold madeO
      rw [List.flatMap_append, List.flatMap_cons]
      rcases List.mem_append.1 h1 with h2 | h2
      · exact List.mem_append_left _ (ih p1 a (p2 ++ b :: post) hm' (by rw [e]; simp) k h2)
      · exact List.mem_append_right _ (List.mem_append_left _ h2)
end
theorem usesI_drop {l : List Int} : ∀ {is : List SsaIns} {j : Nat}, usesI l is = true → usesI (l ++ dstsB7 (is.take j)) (is.drop j) = true
  | is, 0, h => by simpa [dstsB7] using h
  | [], j + 1, h => rfl
  | a :: is, j + 1, h => by
    unfold usesI at h
    rw [Bool.and_eq_true] at h
    have ih := usesI_drop (j := j) h.2
    rw [List.take_succ_cons, List.drop_succ_cons]
    by_cases h0 : a.fDst = 0
    · rw [if_pos h0] at ih
      simpa [dstsB7, h0] using ih
    · rw [if_neg h0] at ih
      simpa [dstsB7, h0] using ih
theorem dsts_app (a b : List SsaIns) : dstsB7 (a ++ b) = dstsB7 a ++ dstsB7 b := by simp [dstsB7]
/-- What is alive anywhere in a block is known there. -/
theorem liveB_known {l : List Int} {b : SsaBlock} {out : Int → Bool} (hu : usedB l b = true) (ho : ∀ k, out k = true → k ∈ l ++ madeB b) (j : Nat) (hj : j ≤ b.fIns.xs.length) : ∀ k, liveB b out j k = true → k ∈ l ++ b.fParams.xs ++ dstsB7 (b.fIns.xs.take j) := by
  have hu0 := hu
  unfold usedB at hu
  rw [Bool.and_eq_true, Bool.and_eq_true, List.all_eq_true] at hu
  obtain ⟨⟨h1, h2⟩, h3⟩ := hu
  refine usesI_live (usesI_drop (j := j) h1) fun k hk => ?_
  rw [List.append_assoc, ← dsts_app, List.take_append_drop, List.append_assoc]
  show k ∈ l ++ madeB b
  unfold addL at hk
  rw [Bool.or_eq_true, decide_eq_true_eq] at hk
  rcases hk with hk | hk
  · exact ho k hk
  · unfold usesE at hk
    rcases List.mem_append.1 hk with hk | hk
    · split at hk
      · rename_i hz
        rw [List.mem_singleton] at hk
        rw [Bool.or_eq_true, decide_eq_true_eq, decide_eq_true_eq] at h3
        rw [hk]
        exact h3.resolve_left hz
      · cases hk
    · obtain ⟨w, hw, hk⟩ := List.mem_flatMap.1 hk
      have := List.all_eq_true.1 (h2 w hw) k hk
      exact of_decide_eq_true this
/-! ### what the picks say -/
theorem PickL.keep {M : Nat} {l : List (Int × (Int → Bool))} {R R' : Int → Option Int} (h : PickL M l R R') {v : Int} (hv : ∀ j ∈ l, j.1 ≠ v) : R' v = R v := by
  induction h with
  | nil => rfl
  | @cons u p l R R1 R2 h k ih =>
    rw [ih fun j hj => hv j (by simp [hj])]
    obtain ⟨c, _, _, _, rfl⟩ := h
    have : v ≠ u := fun e => hv (u, p) (by simp) e.symm
    simp [upd, this]
theorem PickL.own {M : Nat} {l1 l2 : List (Int × (Int → Bool))} {v : Int} {p : Int → Bool} {R R' : Int → Option Int} (h : PickL M (l1 ++ (v, p) :: l2) R R') (hn : ((l1 ++ (v, p) :: l2).map Prod.fst).Nodup) :
    (∃ c : Nat, c < M ∧ R' v = some (c : Int)) ∧ ∀ u, u ∈ l1.map Prod.fst → p u = true → R' u ≠ R' v := by
  obtain ⟨R1, h1, h2⟩ := h.split
  cases h2 with
  | @cons _ _ _ _ R2 _ h2 h3 =>
    rw [List.map_append, List.map_cons, List.nodup_append] at hn
    obtain ⟨n1, n2, n3⟩ := hn
    obtain ⟨n4, n5⟩ := List.nodup_cons.1 n2
    have hv : R' v = R2 v := h3.keep fun j hj e => n4 (e ▸ List.mem_map.2 ⟨j, hj, rfl⟩)
    obtain ⟨c, c1, c2, c3, rfl⟩ := h2
    have hvc : R' v = some (c : Int) := by rw [hv]; simp [upd]
    refine ⟨⟨c, c1, hvc⟩, fun u hu hp e => ?_⟩
    have hne : u ≠ v := fun e => n3 u hu v (by simp) e
    have hu' : R' u = R1 u := by
      rw [h3.keep fun j hj e => n3 u hu u (by rw [List.mem_cons]; exact .inr (e ▸ List.mem_map.2 ⟨j, hj, rfl⟩)) rfl]
      simp [upd, hne]
    exact c2 ⟨u, hp, hne, by rw [← hu', e, hvc]⟩
theorem jobsI_fst {bl : SsaBlock} {out : Int → Bool} : ∀ {k}, k ≤ bl.fIns.xs.length → (jobsI bl out k).map Prod.fst = dstsB7 (bl.fIns.xs.take k)
  | 0, _ => rfl
  | k + 1, h => by
    rw [jobsI_succ, List.map_append, jobsI_fst (by omega), ← takeN (by omega), dsts_app]
    congr 1
    split
    · rename_i e; simp [dstsB7, e]
    · rename_i e; simp [dstsB7, e]
theorem jobsB_fst {bl : SsaBlock} {inn out : Int → Bool} : (jobsB bl inn out).map Prod.fst = madeB bl := by
  unfold jobsB madeB
  rw [List.map_append, jobsI_fst (Nat.le_refl _), List.take_length, List.map_map]
  congr 1
  exact List.map_id _
theorem jobsF_fst {f : SsaFunc} {I O : Nat → Int → Bool} {o : List Int} : (jobsF f I O o).map Prod.fst = madeO f o := by
  unfold jobsF madeO
  rw [List.map_flatMap]
  congr 1
  funext q
  exact jobsB_fst
theorem madeO_nodup {f : SsaFunc} (hn : (madeAll f.fBlocks.xs).Nodup) {o : List Int} (ho : o.Nodup) (hr : ∀ b ∈ o, 0 ≤ b ∧ b < f.fBlocks.xs.length) : (madeO f o).Nodup := by
  unfold madeAll at hn
  have hn : List.Pairwise (· ≠ ·) (f.fBlocks.xs.flatMap madeB) := hn
  rw [List.pairwise_flatMap] at hn
  obtain ⟨h1, h2⟩ := hn
  have h2 := List.pairwise_iff_getElem.1 h2
  show List.Pairwise (· ≠ ·) (o.flatMap _)
  rw [List.pairwise_flatMap]
  refine ⟨fun b hb => ?_, List.Pairwise.imp_of_mem (fun {a b} ha hb hne x hx y hy e => ?_) ho⟩
  · obtain ⟨b0, b1⟩ := hr b hb
    exact h1 _ (nth_mem (by omega))
  · obtain ⟨a0, a1⟩ := hr a ha
    obtain ⟨b0, b1⟩ := hr b hb
    have ha' : a.toNat < f.fBlocks.xs.length := by omega
    have hb' : b.toNat < f.fBlocks.xs.length := by omega
    rw [nth_get ha'] at hx
    rw [nth_get hb'] at hy
    rcases Nat.lt_trichotomy a.toNat b.toNat with h | h | h
    · exact h2 _ _ ha' hb' h x hx y hy e
    · exact hne (by omega)
    · exact h2 _ _ hb' ha' h y hy x hx e.symm
/-! ### the places -/
def entryR (f : SsaFunc) (I : Nat → Int → Bool) (n : Nat) : List Int := (nth f.fBlocks.xs n).fParams.xs ++ (madeAll f.fBlocks.xs).filter fun v => !decide (v ∈ (nth f.fBlocks.xs n).fParams.xs) && I n v
def insR (f : SsaFunc) (O : Nat → Int → Bool) (n k : Nat) : List Int := (if (nth (nth f.fBlocks.xs n).fIns.xs k).fDst ≠ 0 then [(nth (nth f.fBlocks.xs n).fIns.xs k).fDst] else []) ++ (madeAll f.fBlocks.xs).filter fun v => !decide (v = (nth (nth f.fBlocks.xs n).fIns.xs k).fDst) && liveB (nth f.fBlocks.xs n) (O n) (k + 1) v
/-- All that is at a place has other registers. -/
def Apart (R : Int → Option Int) (p : Int → Prop) : Prop := ∀ x y, p x → p y → x ≠ y → R x ≠ R y
theorem GoodF.jobs_nodup {f : SsaFunc} (hG : GoodF f) {I O : Nat → Int → Bool} {o : List Int} (hO : OrdG f o) : ((jobsF f I O o).map Prod.fst).Nodup := by rw [jobsF_fst]; exact madeO_nodup hG.nodup hO.nodup hO.rng
theorem jobsF_split {f : SsaFunc} {I O : Nat → Int → Bool} {o : List Int} {pre post : List Int} {b : Int} (e : o = pre ++ b :: post) : jobsF f I O o = jobsF f I O pre ++ (jobsB (nth f.fBlocks.xs b.toNat) (I b.toNat) (O b.toNat) ++ jobsF f I O post) := by
  unfold jobsF
  rw [e, List.flatMap_append, List.flatMap_cons]
theorem GoodF.params_nodup {f : SsaFunc} (hG : GoodF f) {n : Nat} (hn : n < f.fBlocks.xs.length) : (nth f.fBlocks.xs n).fParams.xs.Nodup := by
  have h := hG.nodup
  unfold madeAll at h
  have h : List.Pairwise (· ≠ ·) (f.fBlocks.xs.flatMap madeB) := h
  rw [List.pairwise_flatMap] at h
  have h := h.1 _ (nth_mem hn)
  unfold madeB at h
  exact (List.pairwise_append.1 h).1
section
variable {f : SsaFunc} (hG : GoodF f) {I O : Nat → Int → Bool} (hQ : FixQ f I O) {o : List Int} (hO : OrdG f o) {M : Nat} {R : Int → Option Int} (hP : PickL M (jobsF f I O o) (fun _ => none) R)
include hG hQ hO
theorem GoodF.alive {pre post : List Int} {b : Int} (e : o = pre ++ b :: post) {j : Nat} (hj : j ≤ (nth f.fBlocks.xs b.toNat).fIns.xs.length) {k : Int} (hk : liveB (nth f.fBlocks.xs b.toNat) (O b.toNat) j k = true) : k ∈ madeO f pre ++ (nth f.fBlocks.xs b.toNat).fParams.xs ++ dstsB7 ((nth f.fBlocks.xs b.toNat).fIns.xs.take j) := by
  have hbm : b ∈ o := by rw [e]; simp
  obtain ⟨b0, b1⟩ := hO.rng b hbm
  have hb : b.toNat < f.fBlocks.xs.length := by omega
  have hr : nth (reachB7 f) b.toNat = true := (hO.mem b.toNat hb).1 (by rw [show ((b.toNat : Nat) : Int) = b by omega]; exact hbm)
  have hs := hG.knSet hr
  have hu := hG.used b.toNat hb
  unfold usedAt at hu
  rw [hs] at hu
  have h1 := liveB_known (l := knB f b.toNat) hu (fun k hk => (alive_known hQ hG.ends hG.used (fun b hb hr => hG.reach hb hr) hb hr hs).2 k hk) j hj k hk
  rcases List.mem_append.1 h1 with h1 | h1
  · rcases List.mem_append.1 h1 with h1 | h1
    · exact List.mem_append_left _ (List.mem_append_left _ (hG.ahead hO _ pre b post (Nat.le_refl _) e k h1))
    · exact List.mem_append_left _ (List.mem_append_right _ h1)
  · exact List.mem_append_right _ h1
include hP
theorem GoodF.has {v : Int} (hv : v ∈ madeO f o) : ∃ c : Nat, c < M ∧ R v = some (c : Int) := by
  have hn := hG.jobs_nodup hO (I := I) (O := O)
  have hq := hQ
  rw [← jobsF_fst (I := I) (O := O)] at hv
  obtain ⟨⟨u, p⟩, h1, h2⟩ := List.mem_map.1 hv
  have h2 : u = v := h2
  subst h2
  obtain ⟨l1, l2, h3⟩ := List.append_of_mem h1
  rw [h3] at hP hn
  exact (hP.own hn).1
/-- A parameter against what is ahead of it. -/
theorem GoodF.par {pre post : List Int} {b : Int} (e : o = pre ++ b :: post) {i : Nat} (hi : i < (nth f.fBlocks.xs b.toNat).fParams.xs.length) {u : Int} (hu : u ∈ madeO f pre ++ (nth f.fBlocks.xs b.toNat).fParams.xs.take i) (hp : u ∈ (nth f.fBlocks.xs b.toNat).fParams.xs ∨ I b.toNat u = true) : R u ≠ R (nth (nth f.fBlocks.xs b.toNat).fParams.xs i) := by
  have hn := hG.jobs_nodup hO (I := I) (O := O)
  have hq := hQ
  have e1 : jobsF f I O o = (jobsF f I O pre ++ ((nth f.fBlocks.xs b.toNat).fParams.xs.take i).map (jobP (nth f.fBlocks.xs b.toNat) (I b.toNat))) ++ (nth (nth f.fBlocks.xs b.toNat).fParams.xs i, addL (I b.toNat) (nth f.fBlocks.xs b.toNat).fParams.xs) :: (((nth f.fBlocks.xs b.toNat).fParams.xs.drop (i + 1)).map (jobP (nth f.fBlocks.xs b.toNat) (I b.toNat)) ++ jobsI (nth f.fBlocks.xs b.toNat) (O b.toNat) (nth f.fBlocks.xs b.toNat).fIns.xs.length ++ jobsF f I O post) := by
    rw [jobsF_split e]
    unfold jobsB
    have h : (nth f.fBlocks.xs b.toNat).fParams.xs = (nth f.fBlocks.xs b.toNat).fParams.xs.take i ++ nth (nth f.fBlocks.xs b.toNat).fParams.xs i :: (nth f.fBlocks.xs b.toNat).fParams.xs.drop (i + 1) := by
      rw [nth_get hi, List.getElem_cons_drop, List.take_append_drop]
    have h2 := congrArg (List.map (jobP (nth f.fBlocks.xs b.toNat) (I b.toNat))) h
    rw [List.map_append, List.map_cons] at h2
    rw [h2]
    simp [jobP]
  rw [e1] at hP hn
  refine (hP.own hn).2 u ?_ ?_
  · rw [List.map_append, jobsF_fst, List.map_map]
    rw [show (Prod.fst ∘ jobP (nth f.fBlocks.xs b.toNat) (I b.toNat)) = id from rfl, List.map_id]
    exact hu
  · unfold addL
    rw [Bool.or_eq_true, decide_eq_true_eq]
    exact hp.symm
/-- What an instruction makes against what is ahead of it. -/
theorem GoodF.dst {pre post : List Int} {b : Int} (e : o = pre ++ b :: post) {k : Nat} (hk : k < (nth f.fBlocks.xs b.toNat).fIns.xs.length) (h0 : (nth (nth f.fBlocks.xs b.toNat).fIns.xs k).fDst ≠ 0) {u : Int} (hu : u ∈ madeO f pre ++ (nth f.fBlocks.xs b.toNat).fParams.xs ++ dstsB7 ((nth f.fBlocks.xs b.toNat).fIns.xs.take k)) (hp : liveB (nth f.fBlocks.xs b.toNat) (O b.toNat) (k + 1) u = true) : R u ≠ R (nth (nth f.fBlocks.xs b.toNat).fIns.xs k).fDst := by
  have hn := hG.jobs_nodup hO (I := I) (O := O)
  have hq := hQ
  obtain ⟨rest, hrest⟩ := jobsI_pre (bl := nth f.fBlocks.xs b.toNat) (out := O b.toNat) (k := k + 1) (n := (nth f.fBlocks.xs b.toNat).fIns.xs.length) (by omega)
  have e1 : jobsF f I O o = (jobsF f I O pre ++ (nth f.fBlocks.xs b.toNat).fParams.xs.map (jobP (nth f.fBlocks.xs b.toNat) (I b.toNat)) ++ jobsI (nth f.fBlocks.xs b.toNat) (O b.toNat) k) ++ ((nth (nth f.fBlocks.xs b.toNat).fIns.xs k).fDst, liveB (nth f.fBlocks.xs b.toNat) (O b.toNat) (k + 1)) :: (rest ++ jobsF f I O post) := by
    rw [jobsF_split e]
    unfold jobsB
    rw [hrest, jobsI_succ, if_neg h0]
    simp
  rw [e1] at hP hn
  refine (hP.own hn).2 u ?_ hp
  rw [List.map_append, List.map_append, jobsF_fst, List.map_map, jobsI_fst (by omega)]
  rw [show (Prod.fst ∘ jobP (nth f.fBlocks.xs b.toNat) (I b.toNat)) = id from rfl, List.map_id]
  exact hu
theorem GoodF.inside {pre post : List Int} {b : Int} (e : o = pre ++ b :: post) (hE : Apart R fun x => x ∈ (nth f.fBlocks.xs b.toNat).fParams.xs ∨ I b.toNat x = true) : ∀ k, k ≤ (nth f.fBlocks.xs b.toNat).fIns.xs.length → Apart R fun x => liveB (nth f.fBlocks.xs b.toNat) (O b.toNat) k x = true := by
  have hbm : b ∈ o := by rw [e]; simp
  obtain ⟨b0, b1⟩ := hO.rng b hbm
  have hb : b.toNat < f.fBlocks.xs.length := by omega
  have hI : I b.toNat = liveB (nth f.fBlocks.xs b.toNat) (O b.toNat) 0 := (hQ.at_ _ hb).1
  intro k
  induction k with
  | zero => exact fun _ x y hx hy => hE x y (.inr (by rw [hI]; exact hx)) (.inr (by rw [hI]; exact hy))
  | succ k ih =>
    intro hk x y hx hy hne
    have hst : ∀ u, liveB (nth f.fBlocks.xs b.toNat) (O b.toNat) (k + 1) u = true → u ≠ (nth (nth f.fBlocks.xs b.toNat).fIns.xs k).fDst → liveB (nth f.fBlocks.xs b.toNat) (O b.toNat) k u = true := fun u hu hd => by
      rw [liveB_step (by omega)]
      unfold stepI addL
      simp [hu, hd]
    have hpos : ∀ u, liveB (nth f.fBlocks.xs b.toNat) (O b.toNat) (k + 1) u = true → u ≠ 0 := fun u hu h0 => by
      have h1 := hG.alive hQ hO e hk hu
      have h2 : u ∈ madeAll f.fBlocks.xs := by
        rcases List.mem_append.1 h1 with h1 | h1
        · rcases List.mem_append.1 h1 with h1 | h1
          · obtain ⟨q, hq, hu⟩ := List.mem_flatMap.1 h1
            obtain ⟨q0, q1⟩ := hO.rng q (by rw [e]; simp [hq])
            exact List.mem_flatMap.2 ⟨_, nth_mem (by omega), hu⟩
          · exact List.mem_flatMap.2 ⟨_, nth_mem hb, List.mem_append_left _ h1⟩
        · refine List.mem_flatMap.2 ⟨_, nth_mem hb, List.mem_append_right _ ?_⟩
          have h2 := dsts_app ((nth f.fBlocks.xs b.toNat).fIns.xs.take (k + 1)) ((nth f.fBlocks.xs b.toNat).fIns.xs.drop (k + 1))
          rw [List.take_append_drop] at h2
          rw [h2]; exact List.mem_append_left _ h1
      have := hG.pos u h2
      omega
    have hah : ∀ u, liveB (nth f.fBlocks.xs b.toNat) (O b.toNat) (k + 1) u = true → u ≠ (nth (nth f.fBlocks.xs b.toNat).fIns.xs k).fDst → u ∈ madeO f pre ++ (nth f.fBlocks.xs b.toNat).fParams.xs ++ dstsB7 ((nth f.fBlocks.xs b.toNat).fIns.xs.take k) := fun u hu hd => hG.alive hQ hO e (by omega) (hst u hu hd)
    by_cases hxd : x = (nth (nth f.fBlocks.xs b.toNat).fIns.xs k).fDst
    · have hyd : y ≠ (nth (nth f.fBlocks.xs b.toNat).fIns.xs k).fDst := fun h => hne (hxd.trans h.symm)
      exact fun h => hG.dst hQ hO hP e (by omega) (by rw [← hxd]; exact hpos x hx) (hah y hy hyd) hy (by rw [← hxd]; exact h.symm)
    · by_cases hyd : y = (nth (nth f.fBlocks.xs b.toNat).fIns.xs k).fDst
      · exact fun h => hG.dst hQ hO hP e (by omega) (by rw [← hyd]; exact hpos y hy) (hah x hx hxd) hx (by rw [← hyd]; exact h)
      · exact ih (by omega) x y (hst x hx hxd) (hst y hy hyd) hne
theorem GoodF.entry : ∀ (m : Nat) (pre : List Int) (b : Int) (post : List Int), pre.length = m → o = pre ++ b :: post → Apart R fun x => x ∈ (nth f.fBlocks.xs b.toNat).fParams.xs ∨ I b.toNat x = true := by
  intro m
  induction m using Nat.strongRecOn with
  | _ m ih =>
    intro pre b post hm e x y hx hy hne
    have hbm : b ∈ o := by rw [e]; simp
    obtain ⟨b0, b1⟩ := hO.rng b hbm
    have hb : b.toNat < f.fBlocks.xs.length := by omega
    have hI : I b.toNat = liveB (nth f.fBlocks.xs b.toNat) (O b.toNat) 0 := (hQ.at_ _ hb).1
    have hal : ∀ u, I b.toNat u = true → u ∈ madeO f pre ∨ u ∈ (nth f.fBlocks.xs b.toNat).fParams.xs := fun u hu => by
      have := hG.alive hQ hO e (Nat.zero_le _) (by rw [← hI]; exact hu)
      rw [List.take_zero] at this
      simpa [dstsB7] using this
    have hpar : ∀ u v, v ∈ (nth f.fBlocks.xs b.toNat).fParams.xs → u ∉ (nth f.fBlocks.xs b.toNat).fParams.xs → I b.toNat u = true → R u ≠ R v := fun u v hv hu hi => by
      obtain ⟨i, hi', rfl⟩ := List.getElem_of_mem hv
      rw [← nth_get hi']
      exact hG.par hQ hO hP e hi' (List.mem_append_left _ ((hal u hi).resolve_right hu)) (.inr hi)
    by_cases hxp : x ∈ (nth f.fBlocks.xs b.toNat).fParams.xs
    · by_cases hyp : y ∈ (nth f.fBlocks.xs b.toNat).fParams.xs
      · obtain ⟨i, hi, rfl⟩ := List.getElem_of_mem hxp
        obtain ⟨j, hj, rfl⟩ := List.getElem_of_mem hyp
        have hpt : ∀ {i j : Nat} (hi : i < (nth f.fBlocks.xs b.toNat).fParams.xs.length) (hj : j < (nth f.fBlocks.xs b.toNat).fParams.xs.length), i < j → R (nth f.fBlocks.xs b.toNat).fParams.xs[i] ≠ R (nth f.fBlocks.xs b.toNat).fParams.xs[j] := fun {i j} hi hj hij => by
          rw [← nth_get hj]
          exact hG.par hQ hO hP e hj (List.mem_append_right _ (List.mem_take_iff_getElem.2 ⟨i, by omega, rfl⟩)) (.inl (List.getElem_mem hi))
        rcases Nat.lt_trichotomy i j with h | h | h
        · exact hpt hi hj h
        · subst h; exact absurd rfl hne
        · exact fun e => hpt hj hi h e.symm
      · exact fun e => hpar y x hxp hyp (hy.resolve_left hyp) e.symm
    · by_cases hyp : y ∈ (nth f.fBlocks.xs b.toNat).fParams.xs
      · exact hpar x y hyp hxp (hx.resolve_left hxp)
      · have hx := hx.resolve_left hxp
        have hy := hy.resolve_left hyp
        rcases hO.up pre b post e with ⟨rfl, _⟩ | ⟨a, ha, w, hw, hwb⟩
        · have := (hal x hx).resolve_right hxp
          cases this
        · obtain ⟨p1, p2, rfl⟩ := List.append_of_mem ha
          have e2 : o = p1 ++ a :: (p2 ++ b :: post) := by rw [e]; simp
          obtain ⟨a0, a1⟩ := hO.rng a (by rw [e2]; simp)
          have haN : a.toNat < f.fBlocks.xs.length := by omega
          have hE := ih p1.length (by simp at hm; omega) p1 a _ rfl e2
          have hIn := hG.inside hQ hO hP e2 hE _ (Nat.le_refl _)
          have hOa : ∀ u, I b.toNat u = true → u ∉ (nth f.fBlocks.xs b.toNat).fParams.xs → liveB (nth f.fBlocks.xs a.toNat) (O a.toNat) (nth f.fBlocks.xs a.toNat).fIns.xs.length u = true := fun u h1 h2 => by
            have := (hQ.at_ _ haN).2 u ⟨w, hw, by omega, by omega, by rw [hwb]; exact h1, by rw [hwb]; exact h2⟩
            rw [liveB_end]
            unfold addL
            rw [this]; rfl
          exact hIn x y (hOa x hx hxp) (hOa y hy hyp) hne
theorem GoodF.entryRow {n : Nat} (hn : n < f.fBlocks.xs.length) (hr : nth (reachB7 f) n = true) : (∀ v ∈ entryR f I n, ∃ c : Nat, c < M ∧ R v = some (c : Int)) ∧ (entryR f I n).Pairwise fun x y => R x ≠ R y := by
  have hm := (hO.mem n hn).2 hr
  obtain ⟨pre, post, e⟩ := List.append_of_mem hm
  have hE := hG.entry hQ hO hP _ pre _ post rfl e
  rw [Int.toNat_natCast] at hE
  have hin : ∀ v ∈ entryR f I n, v ∈ (nth f.fBlocks.xs n).fParams.xs ∨ I n v = true := fun v hv => by
    rcases List.mem_append.1 hv with hv | hv
    · exact .inl hv
    · have := (List.mem_filter.1 hv).2
      rw [Bool.and_eq_true] at this
      exact .inr this.2
  refine ⟨fun v hv => hG.has hQ hO hP ?_, List.Pairwise.imp_of_mem (fun {x y} hx hy hne => hE x y (hin x hx) (hin y hy) hne) (?_ : (entryR f I n).Nodup)⟩
  · have hI : I n = liveB (nth f.fBlocks.xs n) (O n) 0 := (hQ.at_ _ hn).1
    rw [e]
    unfold madeO
    rw [List.flatMap_append, List.flatMap_cons, Int.toNat_natCast]
    rcases hin v hv with h | h
    · exact List.mem_append_right _ (List.mem_append_left _ (List.mem_append_left _ h))
    · have := hG.alive hQ hO e (j := 0) (Nat.zero_le _) (k := v) (by rw [Int.toNat_natCast, ← hI]; exact h)
      rw [List.take_zero, Int.toNat_natCast] at this
      have : v ∈ madeO f pre ∨ v ∈ (nth f.fBlocks.xs n).fParams.xs := by simpa [dstsB7] using this
      rcases this with h | h
      · exact List.mem_append_left _ h
      · exact List.mem_append_right _ (List.mem_append_left _ (List.mem_append_left _ h))
  · unfold entryR
    rw [List.nodup_append]
    refine ⟨hG.params_nodup hn, hG.nodup.filter _, fun a ha b hb e => ?_⟩
    have := (List.mem_filter.1 hb).2
    rw [← e] at this
    simp [ha] at this
theorem GoodF.insRow {n : Nat} (hn : n < f.fBlocks.xs.length) (hr : nth (reachB7 f) n = true) {k : Nat} (hk : k < (nth f.fBlocks.xs n).fIns.xs.length) : (∀ v ∈ insR f O n k, ∃ c : Nat, c < M ∧ R v = some (c : Int)) ∧ (insR f O n k).Pairwise fun x y => R x ≠ R y := by
  have hm := (hO.mem n hn).2 hr
  obtain ⟨pre, post, e⟩ := List.append_of_mem hm
  have hE := hG.entry hQ hO hP _ pre _ post rfl e
  have hIn := hG.inside hQ hO hP e hE (k + 1) (by rw [Int.toNat_natCast]; omega)
  have hdst : ∀ u, _ → _ → _ → _ := fun u h0 h1 h2 => hG.dst hQ hO hP e (k := k) (by rw [Int.toNat_natCast]; exact hk) h0 (u := u) h1 h2
  have hal : ∀ u, _ → _ := fun u h => hG.alive hQ hO e (j := k + 1) (by rw [Int.toNat_natCast]; omega) (k := u) h
  have hal0 : ∀ u, _ → _ := fun u h => hG.alive hQ hO e (j := k) (by rw [Int.toNat_natCast]; omega) (k := u) h
  rw [Int.toNat_natCast] at hIn hdst hal hal0
  have hst : ∀ u, liveB (nth f.fBlocks.xs n) (O n) (k + 1) u = true → u ≠ (nth (nth f.fBlocks.xs n).fIns.xs k).fDst → liveB (nth f.fBlocks.xs n) (O n) k u = true := fun u hu hd => by
    rw [liveB_step hk]
    unfold stepI addL
    simp [hu, hd]
  have hmB : ∀ v, v ∈ madeB (nth f.fBlocks.xs n) → v ∈ madeO f o := fun v hv => by
    rw [e]
    unfold madeO
    rw [List.flatMap_append, List.flatMap_cons, Int.toNat_natCast]
    exact List.mem_append_right _ (List.mem_append_left _ hv)
  have hdm : (nth (nth f.fBlocks.xs n).fIns.xs k).fDst ≠ 0 → (nth (nth f.fBlocks.xs n).fIns.xs k).fDst ∈ madeB (nth f.fBlocks.xs n) := fun h0 => by
    refine List.mem_append_right _ ?_
    unfold dstsB7
    exact List.mem_filter.2 ⟨List.mem_map.2 ⟨_, nth_mem hk, rfl⟩, by simpa using h0⟩
  have hin : ∀ v ∈ insR f O n k, (v = (nth (nth f.fBlocks.xs n).fIns.xs k).fDst ∧ v ≠ 0) ∨ (v ≠ (nth (nth f.fBlocks.xs n).fIns.xs k).fDst ∧ liveB (nth f.fBlocks.xs n) (O n) (k + 1) v = true) := fun v hv => by
    rcases List.mem_append.1 hv with hv | hv
    · split at hv
      · rename_i h0
        rw [List.mem_singleton] at hv
        exact .inl ⟨hv, by rw [hv]; exact h0⟩
      · cases hv
    · have := (List.mem_filter.1 hv).2
      rw [Bool.and_eq_true, Bool.not_eq_true', decide_eq_false_iff_not] at this
      exact .inr this
  refine ⟨fun v hv => hG.has hQ hO hP ?_, List.Pairwise.imp_of_mem (fun {x y} hx hy hne => ?_) (?_ : (insR f O n k).Nodup)⟩
  · rcases hin v hv with ⟨h1, h2⟩ | ⟨h1, h2⟩
    · rw [h1] at h2 ⊢
      exact hmB _ (hdm h2)
    · rcases List.mem_append.1 (hal v h2) with h3 | h3
      · rcases List.mem_append.1 h3 with h3 | h3
        · rw [e]
          unfold madeO at h3 ⊢
          rw [List.flatMap_append]
          exact List.mem_append_left _ h3
        · exact hmB _ (List.mem_append_left _ h3)
      · refine hmB _ (List.mem_append_right _ ?_)
        have h2 := dsts_app ((nth f.fBlocks.xs n).fIns.xs.take (k + 1)) ((nth f.fBlocks.xs n).fIns.xs.drop (k + 1))
        rw [List.take_append_drop] at h2
        rw [h2]; exact List.mem_append_left _ h3
  · rcases hin x hx with ⟨x1, x2⟩ | ⟨x1, x2⟩
    · rcases hin y hy with ⟨y1, y2⟩ | ⟨y1, y2⟩
      · exact absurd (x1.trans y1.symm) hne
      · rw [x1] at x2 ⊢
        exact fun h => hdst y x2 (hal0 y (hst y y2 y1)) y2 h.symm
    · rcases hin y hy with ⟨y1, y2⟩ | ⟨y1, y2⟩
      · rw [y1] at y2 ⊢
        exact hdst x y2 (hal0 x (hst x x2 x1)) x2
      · exact hIn x y x2 y2 hne
  · unfold insR
    rw [List.nodup_append]
    refine ⟨by split <;> simp, hG.nodup.filter _, fun a ha b hb e => ?_⟩
    have h2 := (List.mem_filter.1 hb).2
    split at ha
    · rw [List.mem_singleton] at ha
      rw [← e, ha] at h2
      simp at h2
    · cases ha
end
end Go.Proofs.Ytfplmdjlgjgbgaa
