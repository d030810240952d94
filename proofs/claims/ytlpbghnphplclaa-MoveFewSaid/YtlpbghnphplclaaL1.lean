/- The plain law of MoveLines: what Line's moves do. -/
import Derived.Test.YtlpbghnphplclaaM6
namespace Go.Proofs.Ytlpbghnphplclaa
set_option linter.unusedVariables false
set_option linter.unusedSimpArgs false
open Go

def vl (F : St8) (k : Int) : Int := (F k).getD 0
theorem vl_upd (F : St8) (k x j : Int) : vl (upd F k (some x)) j = if j = k then x else vl F j := by
  unfold vl upd; split <;> rfl
theorem doOf_cons (m : Mv) (l : List Mv) (F : St8) : doOf (m :: l) F = doOf l (upd F m.to (some (vl F m.fr))) := rfl

/-- Line's moves, without what was there before. -/
def lineRec (fr : Int) : Nat → List Mv → List Mv
  | 0, _ => []
  | _ + 1, [] => []
  | n + 1, h :: t =>
    match (h :: t).findIdx? (isFree (h :: t)) with
    | some i => ((h :: t)[i]?).getD h :: lineRec fr n ((h :: t).eraseIdx i)
    | none => if h.to = fr then h :: lineRec fr n t else ⟨fr, h.to⟩ :: lineRec fr n ((h :: t).map (reto h.to fr))

theorem lineGo_rec (fr : Int) : ∀ (n : Nat) (l out : List Mv), lineGo fr n l out = out ++ lineRec fr n l
  | 0, l, out => by simp [lineGo, lineRec]
  | n + 1, [], out => by simp [lineGo, lineRec]
  | n + 1, h :: t, out => by
    cases hf : (h :: t).findIdx? (isFree (h :: t)) with
    | some i =>
      simp only [lineGo, lineRec, hf]
      rw [lineGo_rec fr n]; simp
    | none =>
      simp only [lineGo, lineRec, hf]
      split <;> rw [lineGo_rec fr n] <;> simp

theorem nd_to {l : List Mv} (h : (l.map Mv.to).Nodup) {i j : Nat} {x y : Mv} (hi : l[i]? = some x) (hj : l[j]? = some y) (he : x.to = y.to) : i = j := by
  have hil : i < (l.map Mv.to).length := by have := (List.getElem?_eq_some_iff.1 hi).1; simpa using this
  exact (List.getElem?_inj hil h).1 (by rw [List.getElem?_map, List.getElem?_map, hi, hj]; simp [he])

theorem nodup_subset {α : Type} [DecidableEq α] : ∀ (l1 l2 : List α), l1.Nodup → (∀ x ∈ l1, x ∈ l2) → l2.length ≤ l1.length → ∀ x ∈ l2, x ∈ l1
  | [], l2, _, _, hl, x, hx => by
    have : l2 = [] := List.eq_nil_of_length_eq_zero (by simpa using hl)
    subst this; cases hx
  | a :: l1, l2, hn, hs, hl, x, hx => by
    have ha : a ∈ l2 := hs a (by simp)
    obtain ⟨hna, hn'⟩ := List.nodup_cons.1 hn
    by_cases e : x = a
    · subst e; simp
    · refine List.mem_cons_of_mem _ (nodup_subset l1 (l2.erase a) hn' (fun y hy => ?_) ?_ x ((List.mem_erase_of_ne e).2 hx))
      · have : y ≠ a := fun e' => hna (e' ▸ hy)
        exact (List.mem_erase_of_ne this).2 (hs y (by simp [hy]))
      · rw [List.length_erase_of_mem ha]; simp at hl; omega

/-- Where every place that is to be written is still wanted, nobody wants another place. -/
theorem no_free {fr : Int} {l : List Mv} (hd : (l.map Mv.to).Nodup) (hne : ∀ m ∈ l, m.to ≠ fr) (hf : l.findIdx? (isFree l) = none) : ∀ m ∈ l, m.fr ≠ fr := by
  intro m hm e
  rw [List.findIdx?_eq_none_iff] at hf
  have h1 : ∀ x ∈ l.map Mv.to, x ∈ l.map Mv.fr := by
    intro x hx
    obtain ⟨y, hy, rfl⟩ := List.mem_map.1 hx
    have := hf y hy
    unfold isFree at this
    rw [Bool.not_eq_false'] at this
    obtain ⟨z, hz, hz2⟩ := List.any_eq_true.1 this
    exact List.mem_map.2 ⟨z, hz, by simpa using hz2⟩
  have h2 := nodup_subset _ _ hd h1 (by simp) fr (List.mem_map.2 ⟨m, hm, e⟩)
  obtain ⟨y, hy, hy2⟩ := List.mem_map.1 h2
  exact hne y hy hy2

theorem reto_to (a b : Int) (m : Mv) : (reto a b m).to = m.to := by unfold reto; split <;> rfl
theorem map_reto_to (a b : Int) (l : List Mv) : (l.map (reto a b)).map Mv.to = l.map Mv.to := by
  rw [List.map_map]; exact List.map_congr_left fun m _ => reto_to a b m

/-- One by one it is what was to be done at once. -/
theorem line_does (fr : Int) : ∀ (n : Nat) (l : List Mv) (F : St8), lineMu fr l ≤ n → (l.map Mv.to).Nodup → (∀ m ∈ l, m.to ≠ fr) →
    (∀ m ∈ l, vl (doOf (lineRec fr n l) F) m.to = vl F m.fr) ∧ ∀ k, k ≠ fr → (∀ m ∈ l, m.to ≠ k) → vl (doOf (lineRec fr n l) F) k = vl F k
  | 0, l, F, hn, _, _ => by
    have := lineMu_ge fr l
    have : l = [] := List.eq_nil_of_length_eq_zero (by omega)
    subst this
    exact ⟨fun m hm => (by cases hm), fun k _ _ => rfl⟩
  | n + 1, [], F, _, _, _ => ⟨fun m hm => (by cases hm), fun k _ _ => rfl⟩
  | n + 1, h :: t, F, hn, hd, hne => by
    cases hf : (h :: t).findIdx? (isFree (h :: t)) with
    | some i =>
      have hi : i < (h :: t).length := by rw [List.findIdx?_eq_some_iff_getElem] at hf; exact hf.1
      obtain ⟨m, hm⟩ : ∃ m, (h :: t)[i]? = some m := ⟨_, List.getElem?_eq_getElem hi⟩
      have hfree : isFree (h :: t) m = true := by
        rw [List.findIdx?_eq_some_iff_getElem] at hf
        obtain ⟨_, h1, _⟩ := hf
        obtain ⟨_, h2⟩ := List.getElem?_eq_some_iff.1 hm
        rw [h2] at h1; exact h1
      have hmem : m ∈ h :: t := List.mem_of_getElem? hm
      have e1 : lineRec fr (n + 1) (h :: t) = m :: lineRec fr n ((h :: t).eraseIdx i) := by
        simp only [lineRec, hf, hm, Option.getD_some]
      rw [e1]
      simp only [doOf_cons]
      generalize hl : h :: t = l at *
      have hsub : (l.eraseIdx i).Sublist l := List.eraseIdx_sublist l i
      have hd' : ((l.eraseIdx i).map Mv.to).Nodup := hd.sublist (hsub.map _)
      have hmn : lineMu fr (l.eraseIdx i) ≤ n := by
        have h1 := lineMu_le fr (l.eraseIdx i); have h2 := lineMu_ge fr l
        have h3 : (l.eraseIdx i).length = l.length - 1 := List.length_eraseIdx_of_lt hi
        omega
      obtain ⟨i1, i2⟩ := line_does fr n (l.eraseIdx i) (upd F m.to (some (vl F m.fr))) hmn hd' fun x hx => hne x (hsub.subset hx)
      have hother : ∀ x ∈ l.eraseIdx i, x.to ≠ m.to := by
        intro x hx e
        obtain ⟨j, hj, hjx⟩ := List.mem_eraseIdx_iff_getElem?.1 hx
        exact hj (nd_to hd hjx hm e)
      unfold isFree at hfree
      rw [Bool.not_eq_true', List.any_eq_false] at hfree
      refine ⟨fun x hx => ?_, fun k hk hno => ?_⟩
      · by_cases hxm : x.to = m.to
        · have hxe : x = m := by
            obtain ⟨j, hj⟩ := List.getElem?_of_mem hx
            obtain rfl := nd_to hd hj hm hxm
            rw [hj] at hm; exact Option.some.inj hm
          subst hxe
          rw [i2 x.to (hne x hx) hother, vl_upd, if_pos rfl]
        · have hxe : x ∈ l.eraseIdx i := by
            obtain ⟨j, hj⟩ := List.getElem?_of_mem hx
            refine List.mem_eraseIdx_iff_getElem?.2 ⟨j, fun e => ?_, hj⟩
            subst e
            rw [hj] at hm; cases hm; exact hxm rfl
          rw [i1 x hxe, vl_upd, if_neg]
          have := hfree x hx
          simpa using this
      · rw [i2 k hk fun x hx => hno x (hsub.subset hx), vl_upd, if_neg]
        exact fun e => hno m hmem e.symm
    | none =>
      have hh : h.to ≠ fr := hne h (by simp)
      have hnf := no_free hd hne hf
      have e1 : lineRec fr (n + 1) (h :: t) = ⟨fr, h.to⟩ :: lineRec fr n ((h :: t).map (reto h.to fr)) := by
        simp only [lineRec, hf, hh, if_false]
      rw [e1]
      simp only [doOf_cons]
      have hmn : lineMu fr ((h :: t).map (reto h.to fr)) ≤ n := by have := lineMu_new hf hh; omega
      obtain ⟨i1, i2⟩ := line_does fr n ((h :: t).map (reto h.to fr)) (upd F fr (some (vl F h.to))) hmn (by rw [map_reto_to]; exact hd) (by
        intro x hx
        obtain ⟨y, hy, rfl⟩ := List.mem_map.1 hx
        rw [reto_to]; exact hne y hy)
      refine ⟨fun x hx => ?_, fun k hk hno => ?_⟩
      · have := i1 (reto h.to fr x) (List.mem_map.2 ⟨x, hx, rfl⟩)
        rw [reto_to] at this
        rw [this, vl_upd]
        unfold reto
        by_cases hx2 : x.fr = h.to
        · rw [if_pos hx2, if_pos rfl, hx2]
        · rw [if_neg hx2, if_neg (hnf x hx)]
      · rw [i2 k hk (by
          intro x hx
          obtain ⟨y, hy, rfl⟩ := List.mem_map.1 hx
          rw [reto_to]; exact hno y hy), vl_upd, if_neg hk]

/-- What is in the list that once makes. -/
theorem once_inv (free : Int) (xs : List Mv) : ((onceOf xs free).map Mv.to).Nodup ∧ ∀ m ∈ onceOf xs free, m ∈ xs ∧ m.to ≠ free ∧ m.fr ≠ free := by
  have : ∀ (xs out all : List Mv), (∀ m ∈ xs, m ∈ all) → (out.map Mv.to).Nodup → (∀ m ∈ out, m ∈ all ∧ m.to ≠ free ∧ m.fr ≠ free) →
      ((xs.foldl (onceStep free) out).map Mv.to).Nodup ∧ ∀ m ∈ xs.foldl (onceStep free) out, m ∈ all ∧ m.to ≠ free ∧ m.fr ≠ free := by
    intro xs
    induction xs with
    | nil => intro out all _ h1 h2; exact ⟨h1, h2⟩
    | cons x xs ih =>
      intro out all ha h1 h2
      refine ih _ all (fun m hm => ha m (by simp [hm])) ?_ ?_ <;> unfold onceStep <;> split
      · rename_i hc
        simp only [Bool.and_eq_true, Bool.not_eq_true', List.any_eq_false, bne_iff_ne, ne_eq] at hc
        rw [List.map_append, List.nodup_append]
        refine ⟨h1, by simp, ?_⟩
        intro a ha b hb
        simp at hb
        subst hb
        obtain ⟨y, hy, rfl⟩ := List.mem_map.1 ha
        have := hc.1.1 y hy
        simpa using this
      · exact h1
      · rename_i hc
        simp only [Bool.and_eq_true, bne_iff_ne, ne_eq] at hc
        intro m hm
        rcases List.mem_append.1 hm with hm | hm
        · exact h2 m hm
        · simp at hm
          subst hm
          exact ⟨ha m (by simp), hc.1.2, hc.2⟩
      · exact h2
  exact this xs [] xs (fun _ h => h) (by simp) (fun m hm => by cases hm)

theorem nodup_filter_to {l : List Mv} (p : Mv → Bool) (h : (l.map Mv.to).Nodup) : ((l.filter p).map Mv.to).Nodup := h.sublist ((List.filter_sublist).map _)

/-- Line does at once what was to be done. -/
theorem lineOf_law (ms : List Mv) (free : Int) (F : St8) (h1 : (ms.map Mv.to).Nodup) (h2 : ∀ m ∈ ms, m.to ≠ free) :
    (∀ m ∈ ms, vl (doOf (lineOf ms free) F) m.to = vl F m.fr) ∧
    ∀ k, k ≠ free → (∀ m ∈ ms, m.to ≠ k) → vl (doOf (lineOf ms free) F) k = vl F k := by
  have e : lineOf ms free = lineRec free (2 * ms.length + 1) (ms.filter fun m => !(m.to == m.fr)) := by
    unfold lineOf; rw [lineGo_rec]; rfl
  have hle := List.length_filter_le (fun m : Mv => !(m.to == m.fr)) ms
  obtain ⟨i1, i2⟩ := line_does free (2 * ms.length + 1) (ms.filter fun m => !(m.to == m.fr)) F (by have := lineMu_le free (ms.filter fun m => !(m.to == m.fr)); omega) (nodup_filter_to _ h1) fun m hm => h2 m (List.mem_filter.1 hm).1
  rw [e]
  refine ⟨fun m hm => ?_, fun k hk hno => i2 k hk fun m hm => hno m (List.mem_filter.1 hm).1⟩
  by_cases hs : m.to = m.fr
  · rw [← hs]
    refine i2 m.to (h2 m hm) ?_
    intro x hx e'
    obtain ⟨hx1, hx2⟩ := List.mem_filter.1 hx
    have : x = m := by
      obtain ⟨i, hi⟩ := List.getElem?_of_mem hx1
      obtain ⟨j, hj⟩ := List.getElem?_of_mem hm
      obtain rfl := nd_to h1 hi hj e'
      rw [hi] at hj; exact Option.some.inj hj
    subst this
    simp [hs] at hx2
  · exact i1 m (List.mem_filter.2 ⟨hm, by simp [hs]⟩)

/-- MoveLines, in plain words. -/
theorem lines_law (xs : List Mv) (free : Int) (F : St8) :
    (∀ m ∈ onceOf xs free, vl (doOf (lineOf (onceOf xs free) free) F) m.to = vl F m.fr) ∧
    ∀ k, k ≠ free → (∀ m ∈ onceOf xs free, m.to ≠ k) → vl (doOf (lineOf (onceOf xs free) free) F) k = vl F k := by
  obtain ⟨h1, h2⟩ := once_inv free xs
  exact lineOf_law _ _ F h1 fun m hm => (h2 m hm).2.1
theorem lineRec_wf {fr : Int} (hfr : wfi fr) : ∀ (n : Nat) (l : List Mv), (∀ m ∈ l, wfm m) → ∀ m ∈ lineRec fr n l, wfm m
  | 0, l, _, m, hm => by simp [lineRec] at hm
  | n + 1, [], _, m, hm => by simp [lineRec] at hm
  | n + 1, h :: t, hl, m, hm => by
    cases hf : (h :: t).findIdx? (isFree (h :: t)) with
    | some i =>
      simp only [lineRec, hf] at hm
      rcases List.mem_cons.1 hm with rfl | hm
      · cases hi : (h :: t)[i]? with
        | none => exact hl h (by simp)
        | some x => exact hl x (List.mem_of_getElem? hi)
      · exact lineRec_wf hfr n _ (fun x hx => hl x ((List.eraseIdx_sublist _ i).subset hx)) m hm
    | none =>
      simp only [lineRec, hf] at hm
      split at hm
      · rcases List.mem_cons.1 hm with rfl | hm
        · exact hl _ (by simp)
        · exact lineRec_wf hfr n t (fun x hx => hl x (by simp [hx])) m hm
      · rcases List.mem_cons.1 hm with rfl | hm
        · exact ⟨hfr, (hl h (by simp)).1⟩
        · refine lineRec_wf hfr n _ (fun x hx => ?_) m hm
          obtain ⟨y, hy, rfl⟩ := List.mem_map.1 hx
          have := hl y hy
          unfold reto; split
          · exact ⟨this.1, hfr⟩
          · exact this
theorem lineOf_wf {fr : Int} (hfr : wfi fr) {l : List Mv} (hl : ∀ m ∈ l, wfm m) : ∀ m ∈ lineOf l fr, wfm m := by
  unfold lineOf
  rw [lineGo_rec, List.nil_append]
  exact lineRec_wf hfr _ _ fun m hm => hl m (List.mem_filter.1 hm).1

end Go.Proofs.Ytlpbghnphplclaa
