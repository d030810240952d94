/- Rings: how many there are, and how many more moves Line makes. -/
import Derived.Test.YtlpbghnphplclaaL1
namespace Go.Proofs.Ytlpbghnphplclaa
set_option linter.unusedVariables false
set_option linter.unusedSimpArgs false
open Go

/-- k steps. -/
def itf (f : Int → Option Int) : Nat → Int → Option Int
  | 0, p => some p
  | k + 1, p => (f p).bind (itf f k)
def onC (f : Int → Option Int) (p : Int) : Prop := ∃ k, itf f (k + 1) p = some p
def leads (f : Int → Option Int) (p q : Int) : Prop := ∃ k, itf f k p = some q

theorem itf_add (f : Int → Option Int) : ∀ (i j : Nat) (p : Int), itf f (i + j) p = (itf f i p).bind (itf f j)
  | 0, j, p => by simp [itf]
  | i + 1, j, p => by
    rw [show i + 1 + j = (i + j) + 1 by omega]
    simp only [itf]
    cases h : f p with
    | none => rfl
    | some x => exact itf_add f i j x
theorem itf_succ (f : Int → Option Int) (k : Nat) (p : Int) : itf f (k + 1) p = (itf f k p).bind f := by
  rw [itf_add f k 1 p]
  congr 1; funext x; simp [itf]
theorem leads_trans {f : Int → Option Int} {p q r : Int} (h : leads f p q) (k : leads f q r) : leads f p r := by
  obtain ⟨i, hi⟩ := h; obtain ⟨j, hj⟩ := k
  exact ⟨i + j, by rw [itf_add, hi]; exact hj⟩
theorem leads_refl (f : Int → Option Int) (p : Int) : leads f p p := ⟨0, rfl⟩

/-- Who is on a ring comes back from wherever it leads. -/
theorem onC_mul {f : Int → Option Int} {p : Int} {k : Nat} (h : itf f (k + 1) p = some p) : ∀ m, itf f (m * (k + 1)) p = some p
  | 0 => by simp [itf]
  | m + 1 => by rw [Nat.succ_mul, itf_add, onC_mul h m]; exact h
theorem leads_back {f : Int → Option Int} {p q : Int} (h : onC f p) (l : leads f p q) : leads f q p := by
  obtain ⟨k, hk⟩ := h; obtain ⟨i, hi⟩ := l
  have h1 := onC_mul hk i
  rw [show i * (k + 1) = i + i * k by rw [Nat.mul_succ]; omega, itf_add, hi] at h1
  exact ⟨i * k, h1⟩
theorem onC_of_leads {f : Int → Option Int} {p q : Int} (h : onC f p) (l : leads f p q) : onC f q := by
  obtain ⟨j, hj⟩ := leads_back h l
  obtain ⟨k, hk⟩ := h; obtain ⟨i, hi⟩ := l
  refine ⟨j + k + i, ?_⟩
  rw [show j + k + i + 1 = j + ((k + 1) + i) by omega, itf_add, hj]
  show itf f (k + 1 + i) p = some q
  rw [itf_add, hk]; exact hi

open Classical in
/-- Rings, each at its first place. -/
noncomputable def cyc (f : Int → Option Int) : List Int → List Int → Nat
  | _, [] => 0
  | e, p :: l => (if onC f p ∧ ¬ ∃ q ∈ e, onC f q ∧ leads f q p then 1 else 0) + cyc f (p :: e) l

theorem cyc_congr {f g : Int → Option Int} : ∀ (l e e' : List Int), (∀ p ∈ l, (onC f p ∧ ¬ ∃ q ∈ e, onC f q ∧ leads f q p) ↔ (onC g p ∧ ¬ ∃ q ∈ e', onC g q ∧ leads g q p)) →
    (∀ p ∈ l, ∀ q ∈ l, (onC f q ∧ leads f q p) ↔ (onC g q ∧ leads g q p)) → cyc f e l = cyc g e' l
  | [], _, _, _, _ => rfl
  | p :: l, e, e', h, h2 => by
    unfold cyc
    have hp := h p (by simp)
    congr 1
    · by_cases c : onC f p ∧ ¬ ∃ q ∈ e, onC f q ∧ leads f q p
      · rw [if_pos c, if_pos (hp.1 c)]
      · rw [if_neg c, if_neg fun c' => c (hp.2 c')]
    · refine cyc_congr l (p :: e) (p :: e') (fun x hx => ?_) fun x hx y hy => h2 x (by simp [hx]) y (by simp [hy])
      have h1 := h x (by simp [hx])
      have h3 := h2 x (by simp [hx]) p (by simp)
      have h4 := h2 x (by simp [hx]) x (by simp [hx])
      simp only [List.mem_cons, exists_eq_or_imp, not_or]
      constructor
      · rintro ⟨a, b, c⟩
        have := h1.1 ⟨a, c⟩
        exact ⟨this.1, fun d => b (h3.2 d), this.2⟩
      · rintro ⟨a, b, c⟩
        have := h1.2 ⟨a, c⟩
        exact ⟨this.1, fun d => b (h3.1 d), this.2⟩

/-- An earlier place that is on no ring tells nothing. -/
theorem cyc_drop {f : Int → Option Int} {x : Int} (hx : ¬ onC f x) : ∀ (l e e' : List Int), (∀ q, q ≠ x → (q ∈ e ↔ q ∈ e')) → cyc f e l = cyc f e' l := by
  intro l
  induction l with
  | nil => intro e e' _; rfl
  | cons p l ih =>
    intro e e' h
    unfold cyc
    have hc : (∃ q ∈ e, onC f q ∧ leads f q p) ↔ (∃ q ∈ e', onC f q ∧ leads f q p) := by
      constructor
      · rintro ⟨q, hq, h1, h2⟩; exact ⟨q, (h q fun e => hx (e ▸ h1)).1 hq, h1, h2⟩
      · rintro ⟨q, hq, h1, h2⟩; exact ⟨q, (h q fun e => hx (e ▸ h1)).2 hq, h1, h2⟩
    rw [ih (p :: e) (p :: e') fun q hq => by simp only [List.mem_cons]; rw [h q hq]]
    by_cases c : onC f p ∧ ¬ ∃ q ∈ e, onC f q ∧ leads f q p
    · rw [if_pos c, if_pos ⟨c.1, fun d => c.2 (hc.2 d)⟩]
    · rw [if_neg c, if_neg fun d => c ⟨d.1, fun e1 => d.2 (hc.1 e1)⟩]

theorem cyc_erase {f : Int → Option Int} {x : Int} (hx : ¬ onC f x) : ∀ (l1 l2 e : List Int), cyc f e (l1 ++ x :: l2) = cyc f e (l1 ++ l2)
  | [], l2, e => by
    show cyc f e (x :: l2) = cyc f e l2
    conv => lhs; unfold cyc
    rw [if_neg fun c => hx c.1, Nat.zero_add]
    exact cyc_drop hx l2 _ _ fun q hq => by simp [hq]
  | p :: l1, l2, e => by
    show cyc f e (p :: (l1 ++ x :: l2)) = cyc f e (p :: (l1 ++ l2))
    unfold cyc
    rw [cyc_erase hx l1 l2]

/-! ### moves as a function -/
def fromF (l : List Mv) : Int → Option Int := fun p => (l.find? (·.to == p)).map Mv.fr
theorem fromF_mem {l : List Mv} (hd : (l.map Mv.to).Nodup) {m : Mv} (hm : m ∈ l) : fromF l m.to = some m.fr := by
  unfold fromF
  have : l.find? (·.to == m.to) = some m := by
    cases h : l.find? (·.to == m.to) with
    | none => rw [List.find?_eq_none] at h; exact absurd (by simp) (h m hm)
    | some x =>
      have h1 := List.find?_some h
      have h2 := List.mem_of_find?_eq_some h
      obtain ⟨i, hi⟩ := List.getElem?_of_mem h2
      obtain ⟨j, hj⟩ := List.getElem?_of_mem hm
      obtain rfl := nd_to hd hi hj (by simpa using h1)
      rw [hi] at hj; exact hj
  rw [this]; rfl
theorem fromF_some {l : List Mv} {p q : Int} (h : fromF l p = some q) : ∃ m ∈ l, m.to = p ∧ m.fr = q := by
  unfold fromF at h
  obtain ⟨m, hm, rfl⟩ := Option.map_eq_some_iff.1 h
  exact ⟨m, List.mem_of_find?_eq_some hm, by simpa using List.find?_some hm, rfl⟩

/-- Steps at which both go the same way. -/
theorem itf_same {f g : Int → Option Int} : ∀ (k : Nat) (p : Int), (∀ j y, itf f j p = some y → f y = g y) → itf f k p = itf g k p
  | 0, p, _ => rfl
  | k + 1, p, h => by
    have h0 := h 0 p rfl
    simp only [itf]
    rw [← h0]
    cases hfp : f p with
    | none => rfl
    | some q =>
      refine itf_same k q fun j y hj => h (j + 1) y ?_
      simpa [itf, hfp] using hj
theorem onC_same {f g : Int → Option Int} {p : Int} (h : ∀ j y, itf f j p = some y → f y = g y) : onC f p ↔ onC g p :=
  ⟨fun ⟨k, hk⟩ => ⟨k, (itf_same (k + 1) p h).symm.trans hk⟩, fun ⟨k, hk⟩ => ⟨k, (itf_same (k + 1) p h).trans hk⟩⟩
theorem leads_same {f g : Int → Option Int} {p q : Int} (h : ∀ j y, itf f j p = some y → f y = g y) : leads f p q ↔ leads g p q :=
  ⟨fun ⟨k, hk⟩ => ⟨k, (itf_same k p h).symm.trans hk⟩, fun ⟨k, hk⟩ => ⟨k, (itf_same k p h).trans hk⟩⟩

/-- A move that nobody waits for: the rings stay. -/
theorem cyc_gone {l : List Mv} (hd : (l.map Mv.to).Nodup) {i : Nat} {m : Mv} (hm : l[i]? = some m) (hfree : ∀ x ∈ l, x.fr ≠ m.to) :
    cyc (fromF l) [] (l.map Mv.to) = cyc (fromF (l.eraseIdx i)) [] ((l.eraseIdx i).map Mv.to) := by
  have hi : i < l.length := (List.getElem?_eq_some_iff.1 hm).1
  have hd' : ((l.eraseIdx i).map Mv.to).Nodup := hd.sublist ((List.eraseIdx_sublist l i).map _)
  have never : ∀ p, p ≠ m.to → ∀ j, itf (fromF l) j p ≠ some m.to := by
    intro p hp j
    cases j with
    | zero => intro e; simp [itf] at e; exact hp e
    | succ j =>
      intro e
      rw [itf_succ] at e
      cases h : itf (fromF l) j p with
      | none => rw [h] at e; cases e
      | some y =>
        rw [h] at e
        obtain ⟨x, hx, _, hx2⟩ := fromF_some (p := y) (q := m.to) e
        exact hfree x hx hx2
  have other : ∀ y, y ≠ m.to → fromF l y = fromF (l.eraseIdx i) y := by
    intro y hy
    cases h : fromF l y with
    | some q =>
      obtain ⟨x, hx, rfl, rfl⟩ := fromF_some h
      refine (fromF_mem hd' ?_).symm
      obtain ⟨j, hj⟩ := List.getElem?_of_mem hx
      refine List.mem_eraseIdx_iff_getElem?.2 ⟨j, fun e => ?_, hj⟩
      subst e
      rw [hj] at hm; cases hm; exact hy rfl
    | none =>
      cases h2 : fromF (l.eraseIdx i) y with
      | none => rfl
      | some q =>
        obtain ⟨x, hx, rfl, rfl⟩ := fromF_some h2
        rw [fromF_mem hd ((List.eraseIdx_sublist l i).subset hx)] at h
        cases h
  have same : ∀ p, p ≠ m.to → ∀ j y, itf (fromF l) j p = some y → fromF l y = fromF (l.eraseIdx i) y := fun p hp j y hj => other y fun e => never p hp j (by rw [hj, e])
  have hno : ¬ onC (fromF l) m.to := by
    rintro ⟨k, hk⟩
    rw [itf_succ] at hk
    cases h : itf (fromF l) k m.to with
    | none => rw [h] at hk; cases hk
    | some y =>
      rw [h] at hk
      obtain ⟨x, hx, _, hx2⟩ := fromF_some (p := y) (q := m.to) hk
      exact hfree x hx hx2
  have e1 : l.map Mv.to = (l.take i).map Mv.to ++ m.to :: (l.drop (i + 1)).map Mv.to := by
    obtain ⟨_, he⟩ := List.getElem?_eq_some_iff.1 hm
    conv => lhs; rw [← List.take_append_drop i l, List.drop_eq_getElem_cons hi, he]
    simp
  have e2 : (l.eraseIdx i).map Mv.to = (l.take i).map Mv.to ++ (l.drop (i + 1)).map Mv.to := by
    rw [List.eraseIdx_eq_take_drop_succ, List.map_append]
  have hne : ∀ p ∈ (l.eraseIdx i).map Mv.to, p ≠ m.to := by
    intro p hp e
    rw [e1, List.nodup_append] at hd
    rw [e2] at hp
    obtain ⟨_, h2, h3⟩ := hd
    rcases List.mem_append.1 hp with h | h
    · exact h3 p h m.to (by simp) e
    · exact (List.nodup_cons.1 h2).1 (e ▸ h)
  rw [e1, cyc_erase hno, ← e2]
  refine cyc_congr _ [] [] (fun p hp => ?_) fun p hp q hq => ?_
  · rw [onC_same (same p (hne p hp))]; simp
  · rw [onC_same (same q (hne q hq)), leads_same (same q (hne q hq))]

/-! ### where all wait for each other -/
theorem nodup_le {α : Type} [DecidableEq α] : ∀ (l1 l2 : List α), l1.Nodup → (∀ x ∈ l1, x ∈ l2) → l1.length ≤ l2.length
  | [], l2, _, _ => Nat.zero_le _
  | a :: l1, l2, hn, hs => by
    obtain ⟨hna, hn'⟩ := List.nodup_cons.1 hn
    have ha : a ∈ l2 := hs a (by simp)
    have := nodup_le l1 (l2.erase a) hn' fun y hy => (List.mem_erase_of_ne (by rintro rfl; exact hna hy)).2 (hs y (by simp [hy]))
    rw [List.length_erase_of_mem ha] at this
    have := List.length_pos_of_mem ha
    simp only [List.length_cons]; omega
theorem nodup_other {α : Type} [DecidableEq α] : ∀ (l1 l2 : List α), l1.Nodup → (∀ x ∈ l1, x ∈ l2) → l2.length ≤ l1.length → l2.Nodup
  | [], l2, _, _, hl => by
    have : l2 = [] := List.eq_nil_of_length_eq_zero (by simpa using hl)
    subst this; simp
  | a :: l1, l2, hn, hs, hl => by
    obtain ⟨hna, hn'⟩ := List.nodup_cons.1 hn
    have ha : a ∈ l2 := hs a (by simp)
    have hs' : ∀ y ∈ l1, y ∈ l2.erase a := fun y hy => (List.mem_erase_of_ne (by rintro rfl; exact hna hy)).2 (hs y (by simp [hy]))
    have hl' : (l2.erase a).length ≤ l1.length := by rw [List.length_erase_of_mem ha]; simp at hl; omega
    have ih := nodup_other l1 (l2.erase a) hn' hs' hl'
    rw [(List.perm_cons_erase ha).nodup_iff]
    exact List.nodup_cons.2 ⟨fun h => hna (nodup_subset l1 _ hn' hs' hl' a h), ih⟩

theorem wait_sub {l : List Mv} (hf : l.findIdx? (isFree l) = none) : (∀ x ∈ l.map Mv.to, x ∈ l.map Mv.fr) := by
  rw [List.findIdx?_eq_none_iff] at hf
  intro x hx
  obtain ⟨y, hy, rfl⟩ := List.mem_map.1 hx
  have := hf y hy
  unfold isFree at this
  rw [Bool.not_eq_false'] at this
  obtain ⟨z, hz, hz2⟩ := List.any_eq_true.1 this
  exact List.mem_map.2 ⟨z, hz, by simpa using hz2⟩
section
variable {fr : Int} {l : List Mv} (hd : (l.map Mv.to).Nodup) (hf : l.findIdx? (isFree l) = none)
include hd hf

theorem wait_in {p q : Int} (h : fromF l p = some q) : q ∈ l.map Mv.to := by
  obtain ⟨m, hm, _, rfl⟩ := fromF_some h
  exact nodup_subset _ _ hd (wait_sub hf) (by simp) _ (List.mem_map.2 ⟨m, hm, rfl⟩)
theorem wait_inj {p p' q : Int} (h : fromF l p = some q) (h' : fromF l p' = some q) : p = p' := by
  have hn := nodup_other _ _ hd (wait_sub hf) (by simp)
  obtain ⟨m, hm, rfl, rfl⟩ := fromF_some h
  obtain ⟨m', hm', rfl, e⟩ := fromF_some h'
  obtain ⟨i, hi⟩ := List.getElem?_of_mem hm
  obtain ⟨j, hj⟩ := List.getElem?_of_mem hm'
  have hil : i < (l.map Mv.fr).length := by have := (List.getElem?_eq_some_iff.1 hi).1; simpa using this
  have : i = j := (List.getElem?_inj hil hn).1 (by rw [List.getElem?_map, List.getElem?_map, hi, hj]; simp [e])
  subst this
  rw [hi] at hj; cases hj; rfl
theorem wait_back {p : Int} : ∀ (i j : Nat) (x : Int), i < j → itf (fromF l) i p = some x → itf (fromF l) j p = some x → itf (fromF l) (j - i) p = some p
  | 0, j, x, _, hi, hj => by simp [itf] at hi; subst hi; exact hj
  | i + 1, j + 1, x, hij, hi, hj => by
    rw [itf_succ] at hi hj
    cases h1 : itf (fromF l) i p with
    | none => rw [h1] at hi; cases hi
    | some y =>
      cases h2 : itf (fromF l) j p with
      | none => rw [h2] at hj; cases hj
      | some y' =>
        rw [h1] at hi; rw [h2] at hj
        obtain rfl := wait_inj hd hf (p := y) (p' := y') hi hj
        rw [show j + 1 - (i + 1) = j - i by omega]
        exact wait_back i j y (by omega) h1 h2
theorem wait_all {p : Int} (hp : p ∈ l.map Mv.to) : onC (fromF l) p := by
  have all : ∀ k, ∃ x ∈ l.map Mv.to, itf (fromF l) k p = some x := by
    intro k
    induction k with
    | zero => exact ⟨p, hp, rfl⟩
    | succ k ih =>
      obtain ⟨x, hx, hk⟩ := ih
      obtain ⟨m, hm, rfl⟩ := List.mem_map.1 hx
      have := fromF_mem hd hm
      exact ⟨m.fr, wait_in hd hf this, by rw [itf_succ, hk]; exact this⟩
  obtain ⟨w, hw⟩ := Classical.skolem.1 all
  apply Classical.byContradiction
  intro hn
  have hinj : ∀ i j, i < j → w i ≠ w j := by
    intro i j hij e
    have := wait_back hd hf i j (w i) hij (hw i).2 (by rw [e]; exact (hw j).2)
    exact hn ⟨j - i - 1, by rw [show j - i - 1 + 1 = j - i by omega]; exact this⟩
  have hnd : ((List.range (l.length + 1)).map w).Nodup := by
    rw [List.Nodup, List.pairwise_map]
    exact List.pairwise_lt_range.imp fun h => hinj _ _ h
  have := nodup_le _ (l.map Mv.to) hnd fun x hx => by
    obtain ⟨i, _, rfl⟩ := List.mem_map.1 hx
    exact (hw i).1
  simp at this
  omega
end

theorem fromF_reto {l : List Mv} (hd : (l.map Mv.to).Nodup) (d fr p : Int) : fromF (l.map (reto d fr)) p = (fromF l p).map fun q => if q = d then fr else q := by
  have hd' : ((l.map (reto d fr)).map Mv.to).Nodup := by rw [map_reto_to]; exact hd
  cases h : fromF l p with
  | some q =>
    obtain ⟨m, hm, rfl, rfl⟩ := fromF_some h
    have := fromF_mem hd' (List.mem_map.2 ⟨m, hm, rfl⟩)
    rw [reto_to] at this
    rw [this]
    unfold reto; split <;> simp_all
  | none =>
    cases h2 : fromF (l.map (reto d fr)) p with
    | none => rfl
    | some q =>
      obtain ⟨x, hx, rfl, rfl⟩ := fromF_some h2
      obtain ⟨m, hm, rfl⟩ := List.mem_map.1 hx
      rw [reto_to, fromF_mem hd hm] at h
      cases h

/-- A ring is opened: one less. -/
theorem cyc_opened {fr : Int} {h : Mv} {t : List Mv} (hd : ((h :: t).map Mv.to).Nodup) (hne : ∀ m ∈ h :: t, m.to ≠ fr) (hf : (h :: t).findIdx? (isFree (h :: t)) = none) :
    cyc (fromF (h :: t)) [] ((h :: t).map Mv.to) = cyc (fromF ((h :: t).map (reto h.to fr))) [] (((h :: t).map (reto h.to fr)).map Mv.to) + 1 := by
  rw [map_reto_to]
  have hg := fromF_reto hd h.to fr
  have hall := fun p hp => wait_all hd hf (p := p) hp
  have hin := fun p q (e : fromF (h :: t) p = some q) => wait_in hd hf e
  generalize hF : fromF (h :: t) = f at *
  generalize hG : fromF ((h :: t).map (reto h.to fr)) = g at *
  have hfrn : f fr = none := by
    cases e : f fr with
    | none => rfl
    | some q =>
      rw [← hF] at e
      obtain ⟨m, hm, h1, _⟩ := fromF_some e
      exact absurd h1 (hne m hm)
  generalize hdd : h.to = d at *
  have keep : ∀ p, ¬ leads f p d → ∀ j y, itf f j p = some y → f y = g y := by
    intro p hp j y hj
    rw [hg]
    cases e : f y with
    | none => rfl
    | some q =>
      have : q ≠ d := fun e' => hp ⟨j + 1, by rw [itf_succ, hj]; show f y = some d; rw [e, e']⟩
      simp [this]
  have ends : ∀ k p, itf f (k + 1) p = some d → ∃ j, itf g j p = none := by
    intro k
    induction k with
    | zero =>
      intro p hp
      have hp : f p = some d := by simpa [itf] using hp
      exact ⟨2, by simp [itf, hg, hp, hfrn]⟩
    | succ k ih =>
      intro p hp
      cases e : f p with
      | none => simp [itf, e] at hp
      | some q =>
        by_cases hq : q = d
        · subst hq
          exact ⟨2, by simp [itf, hg, e, hfrn]⟩
        · obtain ⟨j, hj⟩ := ih q (by simpa [itf, e] using hp)
          refine ⟨j + 1, ?_⟩
          have : g p = some q := by rw [hg, e]; simp [hq]
          simp only [itf, this]; exact hj
  have hdm : d ∈ (h :: t).map Mv.to := by rw [← hdd]; simp
  have hdc := hall d hdm
  have gone : ∀ p, leads f p d → ¬ onC g p := by
    rintro p ⟨k, hk⟩ ⟨k', hk'⟩
    have : ∃ j, itf g j p = none := by
      cases k with
      | succ k => exact ends k p hk
      | zero =>
        simp [itf] at hk; subst hk
        obtain ⟨k2, hk2⟩ := hdc
        exact ends k2 p hk2
    obtain ⟨j, hj⟩ := this
    have h1 := onC_mul hk' j
    rw [show j * (k' + 1) = j + j * k' by rw [Nat.mul_succ]; omega, itf_add, hj] at h1
    cases h1
  have main : ∀ (l e : List Int), d ∈ e → (∀ p ∈ l, p ∈ (h :: t).map Mv.to) → (∀ q ∈ e, q ∈ (h :: t).map Mv.to) → cyc f e l = cyc g e l := by
    intro l
    induction l with
    | nil => intro e _ _ _; rfl
    | cons p l ih =>
      intro e hde hl he
      unfold cyc
      rw [ih (p :: e) (by simp [hde]) (fun x hx => hl x (by simp [hx])) (by
        intro q hq
        rcases List.mem_cons.1 hq with rfl | hq
        · exact hl _ (by simp)
        · exact he q hq)]
      have hpc := hall p (hl p (by simp))
      have hc : (onC f p ∧ ¬ ∃ q ∈ e, onC f q ∧ leads f q p) ↔ (onC g p ∧ ¬ ∃ q ∈ e, onC g q ∧ leads g q p) := by
        by_cases hpd : leads f p d
        · constructor
          · rintro ⟨_, h2⟩; exact absurd ⟨d, hde, hdc, leads_back hpc hpd⟩ h2
          · rintro ⟨h1, _⟩; exact absurd h1 (gone p hpd)
        · rw [onC_same (keep p hpd)]
          have hq : ∀ q ∈ e, (onC f q ∧ leads f q p) ↔ (onC g q ∧ leads g q p) := by
            intro q hq
            by_cases hqd : leads f q d
            · constructor
              · rintro ⟨h1, h2⟩; exact absurd (leads_trans (leads_back h1 h2) hqd) hpd
              · rintro ⟨h1, _⟩; exact absurd h1 (gone q hqd)
            · rw [onC_same (keep q hqd), leads_same (keep q hqd)]
          constructor
          · rintro ⟨h1, h2⟩; exact ⟨h1, fun ⟨q, hq1, hq2⟩ => h2 ⟨q, hq1, (hq q hq1).2 hq2⟩⟩
          · rintro ⟨h1, h2⟩; exact ⟨h1, fun ⟨q, hq1, hq2⟩ => h2 ⟨q, hq1, (hq q hq1).1 hq2⟩⟩
      by_cases c : onC f p ∧ ¬ ∃ q ∈ e, onC f q ∧ leads f q p
      · rw [if_pos c, if_pos (hc.1 c)]
      · rw [if_neg c, if_neg fun c' => c (hc.2 c')]
  show cyc f [] (h.to :: t.map Mv.to) = cyc g [] (h.to :: t.map Mv.to) + 1
  rw [hdd]
  unfold cyc
  rw [if_pos ⟨hdc, by simp⟩, if_neg fun c => gone d (leads_refl f d) c.1, main (t.map Mv.to) [d] (by simp) (fun p hp => by simp at hp ⊢; exact .inr hp) (by simpa using hdm)]
  omega

/-- How many moves Line makes, and how many of them to the free place. -/
theorem line_counts (fr : Int) : ∀ (n : Nat) (l : List Mv), lineMu fr l ≤ n → (l.map Mv.to).Nodup → (∀ m ∈ l, m.to ≠ fr) →
    (lineRec fr n l).length = l.length + cyc (fromF l) [] (l.map Mv.to) ∧ (lineRec fr n l).countP (·.to == fr) = cyc (fromF l) [] (l.map Mv.to)
  | 0, l, hn, _, _ => by
    have := lineMu_ge fr l
    have : l = [] := List.eq_nil_of_length_eq_zero (by omega)
    subst this
    exact ⟨rfl, rfl⟩
  | n + 1, [], _, _, _ => ⟨rfl, rfl⟩
  | n + 1, h :: t, hn, hd, hne => by
    cases hf : (h :: t).findIdx? (isFree (h :: t)) with
    | some i =>
      have hi : i < (h :: t).length := by rw [List.findIdx?_eq_some_iff_getElem] at hf; exact hf.1
      obtain ⟨m, hm⟩ : ∃ m, (h :: t)[i]? = some m := ⟨_, List.getElem?_eq_getElem hi⟩
      have hfree : isFree (h :: t) m = true := by
        rw [List.findIdx?_eq_some_iff_getElem] at hf
        obtain ⟨_, h1, _⟩ := hf
        obtain ⟨_, h2⟩ := List.getElem?_eq_some_iff.1 hm
        rw [h2] at h1; exact h1
      have hmem : m ∈ h :: t := List.mem_of_getElem? hm
      have e1 : lineRec fr (n + 1) (h :: t) = m :: lineRec fr n ((h :: t).eraseIdx i) := by
        simp only [lineRec, hf, hm, Option.getD_some]
      rw [e1]
      generalize hl : h :: t = l at *
      have hsub : (l.eraseIdx i).Sublist l := List.eraseIdx_sublist l i
      have h3 : (l.eraseIdx i).length = l.length - 1 := List.length_eraseIdx_of_lt hi
      obtain ⟨i1, i2⟩ := line_counts fr n (l.eraseIdx i) (by have h1 := lineMu_le fr (l.eraseIdx i); have h2 := lineMu_ge fr l; omega) (hd.sublist (hsub.map _)) fun x hx => hne x (hsub.subset hx)
      unfold isFree at hfree
      rw [Bool.not_eq_true', List.any_eq_false] at hfree
      have hc := cyc_gone hd hm fun x hx => by have := hfree x hx; simpa using this
      rw [List.length_cons, i1, List.countP_cons, i2, hc]
      have := hne m hmem
      simp only [beq_iff_eq, this, if_false]
      omega
    | none =>
      have hh : h.to ≠ fr := hne h (by simp)
      have e1 : lineRec fr (n + 1) (h :: t) = ⟨fr, h.to⟩ :: lineRec fr n ((h :: t).map (reto h.to fr)) := by
        simp only [lineRec, hf, hh, if_false]
      rw [e1, cyc_opened hd hne hf]
      obtain ⟨i1, i2⟩ := line_counts fr n ((h :: t).map (reto h.to fr)) (by have := lineMu_new hf hh; omega) (by rw [map_reto_to]; exact hd) (by
        intro x hx
        obtain ⟨y, hy, rfl⟩ := List.mem_map.1 hx
        rw [reto_to]; exact hne y hy)
      have hlm : ((h :: t).map (reto h.to fr)).length = (h :: t).length := by simp
      have e5 : ((⟨fr, h.to⟩ : Mv).to == fr) = true := by simp
      refine ⟨?_, ?_⟩
      · rw [List.length_cons, i1, hlm]; omega
      · rw [List.countP_cons, i2, if_pos e5]
end Go.Proofs.Ytlpbghnphplclaa
