/- Layer 12: labels under more cut, plainly. -/
import Derived.Test.YtomhieglgfjloaaQ10
namespace Go.Proofs.Ytomhieglgfjloaa
set_option linter.unusedVariables false
set_option linter.unusedSimpArgs false
open Go Go.RowKit

def C0 : Nat → Int → Bool := fun _ _ => false
/-- What is cut of a request. -/
def cutQ (C : Nat → Int → Bool) (q : Rq) : Rq := if q.g.1 = 0 then ⟨q.g, cutE C q.g.2.1 q.g.2.2 q.e⟩ else q
theorem cutE0 {f : Nat} {v : Int} {e : Lb → Int} : cutE C0 f v e = e := by
  funext L
  unfold cutE C0
  simp
theorem rqV0_e {f : Nat} {v : Int} {e : Lb → Int} : (rqV C0 f v e).e = e := cutE0 (f := f) (v := v)
theorem rqV_cut {C : Nat → Int → Bool} {f : Nat} {v : Int} {e : Lb → Int} : rqV C f v e = cutQ C (rqV C0 f v e) := by
  unfold cutQ rqV
  simp only [cutE0, if_true]
theorem rqI_cut {p : SsaProg} {C : Nat → Int → Bool} {W : List Bool} {f : Nat} {i : SsaIns} : rqI p C W f i = (rqI p C0 W f i).map (cutQ C) := by
  unfold rqI
  split
  · rw [List.map_singleton, ← rqV_cut]
  split
  · rw [List.map_singleton, ← rqV_cut]
  split
  · rw [List.map_singleton, ← rqV_cut]
  split
  · rfl
  split
  · rfl
  split
  · rw [List.map_append, List.map_singleton, ← rqV_cut]
    congr 1
    unfold callR
    rw [List.map_map]
    exact List.map_congr_left fun k _ => rqV_cut
  · rfl
theorem rqB_cut {p : SsaProg} {C : Nat → Int → Bool} {W : List Bool} {f : Nat} {b : SsaBlock} : rqB p C W f b = (rqB p C0 W f b).map (cutQ C) := by
  unfold rqB
  rw [List.map_append, List.map_append, List.map_flatMap, List.map_flatMap]
  congr 1
  · congr 1
    · congr 1
      funext i
      exact rqI_cut
    · congr 1
      funext w
      unfold rqW wayR
      rw [List.map_map]
      exact List.map_congr_left fun k _ => rqV_cut
  · unfold rqE
    split <;> rfl
theorem rqP_cut {p : SsaProg} {C : Nat → Int → Bool} {W : List Bool} {n : Nat} : rqP p C W n = (rqP p C0 W n).map (cutQ C) := by
  unfold rqP
  rw [List.map_flatMap]
  congr 1
  funext f
  unfold rqF
  rw [List.map_flatMap]
  congr 1
  funext b
  split
  · exact rqB_cut
  · rfl
/-- What a request says with a cut, and without. -/
def asks (C : Nat → Int → Bool) (q : Rq) (L : Lb) : Int := if q.g.1 = 0 ∧ C q.g.2.1 q.g.2.2 = true then stays (q.e L) else q.e L
theorem cutQ_g {C : Nat → Int → Bool} {q : Rq} : (cutQ C q).g = q.g := by unfold cutQ; split <;> rfl
theorem cutQ_e {C : Nat → Int → Bool} {q : Rq} {L : Lb} : (cutQ C q).e L = asks C q L := by
  unfold cutQ asks
  by_cases h : q.g.1 = 0
  · rw [if_pos h]
    show cutE C _ _ _ L = _
    unfold cutE
    by_cases h2 : C q.g.2.1 q.g.2.2 = true
    · rw [if_pos h2, if_pos ⟨h, h2⟩]
    · rw [if_neg h2, if_neg (fun h3 => h2 h3.2)]
  · rw [if_neg h, if_neg (fun h3 => h h3.1)]
theorem closed_iff {p : SsaProg} {C : Nat → Int → Bool} {W : List Bool} {n : Nat} {L : Lb} : ClosedR (rqP p C W n) L ↔ ∀ q ∈ rqP p C0 W n, asks C q L ≤ L q.g := by
  rw [rqP_cut]
  constructor
  · intro h q hq
    have := h _ (List.mem_map.2 ⟨q, hq, rfl⟩)
    rwa [cutQ_g, cutQ_e] at this
  · intro h q hq
    obtain ⟨q0, hq0, rfl⟩ := List.mem_map.1 hq
    rw [cutQ_g, cutQ_e]
    exact h q0 hq0
/-- What a request needs to be Secret. -/
def TwoE (e : Lb → Int) : Prop := ∀ L L' : Lb, (∀ g, 2 ≤ L' g → 2 ≤ L g) → 2 ≤ e L' → 2 ≤ e L
theorem two_at (g : Tgt) : TwoE fun L => L g := fun L L' h => h g
theorem stays_two {x : Int} : 2 ≤ stays x ↔ 2 ≤ x := by unfold stays; split <;> omega
theorem two_stays {e : Lb → Int} (h : TwoE e) : TwoE fun L => stays (e L) := fun L L' hl h2 => stays_two.2 (h L L' hl (stays_two.1 h2))
theorem fold_two {L L' : Int → Int} (h : ∀ v, 2 ≤ L' v → 2 ≤ L v) : ∀ {xs : List Int} {m m' : Int}, (2 ≤ m' → 2 ≤ m) → 2 ≤ xs.foldl (fun m v => max m (L' v)) m' → 2 ≤ xs.foldl (fun m v => max m (L v)) m
  | [], _, _, hm, h2 => hm h2
  | x :: xs, m, m', hm, h2 => fold_two h (xs := xs) (m' := max m' (L' x)) (by have := h x; intro h3; show 2 ≤ max m (L x); omega) h2
theorem two_of (f : Nat) (xs : List Int) : TwoE (ofE f xs) := fun L L' h h2 => fold_two (fun v => h (0, f, v)) id h2
theorem two_I {p : SsaProg} {W : List Bool} {f : Nat} {i : SsaIns} : ∀ q ∈ rqI p C0 W f i, TwoE q.e := by
  intro q hq
  unfold rqI at hq
  split at hq
  · rw [List.mem_singleton] at hq
    rw [hq]
    rw [rqV0_e]
    exact fun L L' _ h => h
  split at hq
  · rw [List.mem_singleton] at hq
    rw [hq]
    rw [rqV0_e]
    exact two_of _ _
  split at hq
  · rw [List.mem_singleton] at hq
    rw [hq]
    rw [rqV0_e]
    intro L L' h h2
    have h1 := h (1, i.fArr.toNat, 0)
    have h3 := two_of f i.fArgs.xs L L' h
    have h4 := mayL_in (W := W) (i := i)
    have h2 : 2 ≤ max (max (L' (1, i.fArr.toNat, 0)) (ofE f i.fArgs.xs L')) (mayL W i) := h2
    show 2 ≤ max (max (L (1, i.fArr.toNat, 0)) (ofE f i.fArgs.xs L)) (mayL W i)
    omega
  split at hq
  · rw [List.mem_singleton] at hq
    rw [hq]
    exact two_stays (two_of _ _)
  split at hq
  · rw [List.mem_singleton] at hq
    rw [hq]
    exact two_stays (two_at _)
  split at hq
  · rcases List.mem_append.1 hq with hq | hq
    · unfold callR at hq
      obtain ⟨k, _, rfl⟩ := List.mem_map.1 hq
      rw [rqV0_e]
      exact two_stays (two_at _)
    · rw [List.mem_singleton] at hq
      rw [hq]
      rw [rqV0_e]
      exact two_at _
  · cases hq
theorem two_P {p : SsaProg} {W : List Bool} {n : Nat} : ∀ q ∈ rqP p C0 W n, TwoE q.e := by
  intro q hq
  unfold rqP rqF at hq
  obtain ⟨f, _, hq⟩ := List.mem_flatMap.1 hq
  obtain ⟨b, _, hq⟩ := List.mem_flatMap.1 hq
  split at hq
  · unfold rqB at hq
    rcases List.mem_append.1 hq with hq | hq
    · rcases List.mem_append.1 hq with hq | hq
      · obtain ⟨i, _, hq⟩ := List.mem_flatMap.1 hq
        exact two_I q hq
      · obtain ⟨w, _, hq⟩ := List.mem_flatMap.1 hq
        unfold rqW wayR at hq
        obtain ⟨k, _, rfl⟩ := List.mem_map.1 hq
        rw [rqV0_e]
        exact two_at _
    · unfold rqE at hq
      split at hq
      · rw [List.mem_singleton] at hq
        rw [hq]
        exact two_stays (two_at _)
      · cases hq
  · cases hq
/-- Whose labels are asked for. -/
def KeyOk (p : SsaProg) (g : Tgt) : Prop := g.1 = 0 → g.2.1 < p.fFuncs.xs.length ∧ g.2.2 ∈ madeAll (nth p.fFuncs.xs g.2.1).fBlocks.xs
theorem key_P {p : SsaProg} (hG : GoodP p) (hp : FewPr p) {C : Nat → Int → Bool} {W : List Bool} : ∀ q ∈ rqP p C W p.fFuncs.xs.length, KeyOk p q.g := by
  intro q hq
  unfold rqP rqF at hq
  obtain ⟨f, hf, hq⟩ := List.mem_flatMap.1 hq
  obtain ⟨b, hb, hq⟩ := List.mem_flatMap.1 hq
  have hf := List.mem_range.1 hf
  have hb := List.mem_range.1 hb
  split at hq
  · unfold rqB at hq
    rcases List.mem_append.1 hq with hq | hq
    · rcases List.mem_append.1 hq with hq | hq
      · obtain ⟨i, hi, hq⟩ := List.mem_flatMap.1 hq
        obtain ⟨j, hj, rfl⟩ := List.getElem_of_mem hi
        rw [← nth_get hj] at hq
        have hI := hG.ins f hf b hb j hj
        have hd := hI.dst.1
        unfold rqI at hq
        have hdm : (nth (nth (nth p.fFuncs.xs f).fBlocks.xs b).fIns.xs j).fDst ≠ 0 → KeyOk p (0, f, (nth (nth (nth p.fFuncs.xs f).fBlocks.xs b).fIns.xs j).fDst) := fun h _ => ⟨hf, dst_made hb hj h⟩
        split at hq
        · rw [List.mem_singleton] at hq
          rw [hq]; exact hdm (by omega)
        split at hq
        · rw [List.mem_singleton] at hq
          rw [hq]; exact hdm (by omega)
        split at hq
        · rw [List.mem_singleton] at hq
          rw [hq]; exact hdm (by omega)
        split at hq
        · rw [List.mem_singleton] at hq
          rw [hq]; exact fun h => (by cases h)
        split at hq
        · rw [List.mem_singleton] at hq
          rw [hq]; exact fun h => (by cases h)
        split at hq
        · rename_i h7
          rcases List.mem_append.1 hq with hq | hq
          · unfold callR at hq
            obtain ⟨k, hk, rfl⟩ := List.mem_map.1 hq
            obtain ⟨a1, a2, a3, a4⟩ := hI.fn h7
            exact fun _ => ⟨by show Int.toNat _ < _; omega, par_made a3 _ (nth_mem (List.mem_range.1 hk))⟩
          · rw [List.mem_singleton] at hq
            rw [hq]; exact hdm (by omega)
        · cases hq
      · obtain ⟨w, hw, hq⟩ := List.mem_flatMap.1 hq
        unfold rqW wayR at hq
        obtain ⟨k, hk, rfl⟩ := List.mem_map.1 hq
        obtain ⟨a1, a2, a3⟩ := way_facts (hG.ends f hf b hb) hw
        exact fun _ => ⟨hf, par_made (f := nth p.fFuncs.xs f) (b := w.fTo.toNat) (by omega) _ (nth_mem (List.mem_range.1 hk))⟩
    · unfold rqE at hq
      split at hq
      · rw [List.mem_singleton] at hq
        rw [hq]; exact fun h => (by cases h)
      · cases hq
  · cases hq
theorem stays_le {x : Int} : stays x ≤ x := by unfold stays; split <;> omega
theorem stays_st {x : Int} : stays (stays x) = stays x := by unfold stays; split <;> omega
theorem base_in (p : SsaProg) (g : Tgt) : baseL p g = 0 ∨ baseL p g = 2 := by unfold baseL; split <;> simp
section
variable {p : SsaProg} (hG : GoodP p) (hp : FewPr p) {C C' : Nat → Int → Bool} {s s' : LSt} (h : Labd p C s) (h' : Labd p C' s') 
include hG hp h h'
/-- With more cut nothing is above. -/
theorem cut_mono (hC : ∀ f v, f < p.fFuncs.xs.length → v ∈ madeAll (nth p.fFuncs.xs f).fBlocks.xs → C f v = true → C' f v = true) (g : Tgt) : labL s' g ≤ labL s g := by
  refine h'.least _ (closed_iff.2 fun q hq => ?_) h.base g
  have hc := closed_iff.1 h.closed q hq
  have hk := key_P hG hp q hq
  refine Int.le_trans ?_ hc
  unfold asks
  by_cases h1 : q.g.1 = 0 ∧ C q.g.2.1 q.g.2.2 = true
  · obtain ⟨a, b⟩ := hk h1.1
    rw [if_pos h1, if_pos ⟨h1.1, hC _ _ a b h1.2⟩]
    exact Int.le_refl _
  · rw [if_neg h1]
    split
    · exact stays_le
    · exact Int.le_refl _
end
/-- Where all is cut nothing is Transient. -/
theorem cut_all {p : SsaProg} (hG : GoodP p) (hp : FewPr p) {C : Nat → Int → Bool} {s : LSt} (h : Labd p C s) (hC : ∀ f v, f < p.fFuncs.xs.length → v ∈ madeAll (nth p.fFuncs.xs f).fBlocks.xs → C f v = true) (g : Tgt) : labL s g ≠ 1 := by
  have h1 := h.least (fun g => stays (labL s g)) (closed_iff.2 fun q hq => ?_) (fun g => ?_) g
  · intro e
    have h1 : labL s g ≤ stays (labL s g) := h1
    rw [e] at h1
    exact absurd h1 (by decide)
  · have hc := closed_iff.1 h.closed q hq
    have hk := key_P hG hp q hq
    have hgood := goodP (p := p) (C := C0) (W := writesL p) (n := p.fFuncs.xs.length) q hq
    have hm : q.e (fun g => stays (labL s g)) ≤ q.e (labL s) := hgood.m _ _ fun g => stays_le
    show asks C q _ ≤ stays (labL s q.g)
    unfold asks at hc ⊢
    by_cases h0 : q.g.1 = 0
    · obtain ⟨a, b⟩ := hk h0
      rw [if_pos ⟨h0, hC _ _ a b⟩] at hc ⊢
      have := stays_mono hc
      rw [stays_st] at this
      exact Int.le_trans (stays_mono hm) this
    · rw [if_neg (fun h => h0 h.1)] at hc ⊢
      have h2 := stays_mono (Int.le_trans hm hc)
      have h3 : stays (q.e fun g => stays (labL s g)) = q.e fun g => stays (labL s g) := if_neg (hgood.ne h0 _)
      rw [← h3]
      exact h2
  · have := stays_mono (h.base g)
    rcases base_in p g with e | e <;> rw [e] at this ⊢ <;> exact this
/-- No cut turns what is Secret. -/
theorem cut_two {p : SsaProg} {C C' : Nat → Int → Bool} {s s' : LSt} (h : Labd p C s) (h' : Labd p C' s') (hr : ∀ g, 0 ≤ labL s g ∧ labL s g ≤ 2) (hr' : ∀ g, 0 ≤ labL s' g ∧ labL s' g ≤ 2) (g : Tgt) (h2 : labL s g = 2) : labL s' g = 2 := by
  have h1 := h.least (fun g => if labL s' g = 2 then 2 else 1) (closed_iff.2 fun q hq => ?_) (fun g => ?_) g
  · have h1 : labL s g ≤ if labL s' g = 2 then 2 else 1 := h1
    rw [h2] at h1
    split at h1
    · assumption
    · exact absurd h1 (by decide)
  · have hc := closed_iff.1 h'.closed q hq
    have hgood := goodP (p := p) (C := C0) (W := writesL p) (n := p.fFuncs.xs.length) q hq
    have htwo := two_P (p := p) (W := writesL p) (n := p.fFuncs.xs.length) q hq
    have hub : q.e (fun g => if labL s' g = 2 then 2 else 1) ≤ 2 := hgood.ub _ fun g => by show (if _ then _ else _) ≤ (2 : Int); split <;> decide
    have h3 := htwo (labL s') (fun g => if labL s' g = 2 then 2 else 1) (fun g hg => by
      have hg : 2 ≤ if labL s' g = 2 then (2 : Int) else 1 := hg
      split at hg
      · omega
      · exact absurd hg (by decide))
    have h4 : asks C q (fun g => if labL s' g = 2 then 2 else 1) ≤ q.e (fun g => if labL s' g = 2 then 2 else 1) := by
      unfold asks
      split
      · exact stays_le
      · exact Int.le_refl _
    show asks C q _ ≤ if labL s' q.g = 2 then 2 else 1
    split
    · omega
    · rename_i hne
      have : ¬ 2 ≤ q.e (fun g => if labL s' g = 2 then 2 else 1) := fun hge => by
        have h5 := h3 hge
        have h6 : 2 ≤ asks C' q (labL s') := by
          unfold asks
          split
          · exact stays_two.2 h5
          · exact h5
        have := hr' q.g
        omega
      omega
  · show baseL p g ≤ if labL s' g = 2 then 2 else 1
    have := h'.base g
    have := hr' g
    rcases base_in p g with e | e
    · rw [e]; split <;> decide
    · rw [e, if_pos (by omega)]; decide
end Go.Proofs.Ytomhieglgfjloaa
