/- Layer 12: the law's own facts are the labels, level by level, plainly. -/
import Derived.Test.YtomhieglgfjloaaQ20
namespace Go.Proofs.Ytomhieglgfjloaa
set_option linter.unusedVariables false
set_option linter.unusedSimpArgs false
open Go Go.RowKit

theorem ofE_ge {f : Nat} {xs : List Int} {L : Lb} {k : Int} (hk : 1 ≤ k) : k ≤ ofE f xs L ↔ (anyF f xs fun g => decide (k ≤ L g)) = true := by
  unfold ofE anyF
  have h : ∀ (xs : List Int) (m : Int), k ≤ xs.foldl (fun m v => max m (L (0, f, v))) m ↔ k ≤ m ∨ (xs.any fun v => decide (k ≤ L (0, f, v))) = true := by
    intro xs
    induction xs with
    | nil => intro m; simp
    | cons a xs ih =>
      intro m
      rw [List.foldl_cons, ih, List.any_cons, Bool.or_eq_true, decide_eq_true_eq]
      constructor
      · rintro (h | h)
        · by_cases e : k ≤ m
          · exact .inl e
          · exact .inr (.inl (by omega))
        · exact .inr (.inr h)
      · rintro (h | h | h)
        · exact .inl (by omega)
        · exact .inl (by omega)
        · exact .inr h
  rw [h xs 0]
  constructor
  · rintro (h | h)
    · omega
    · exact h
  · exact .inr
theorem stays2 {x : Int} (h : 0 ≤ x ∧ x ≤ 2) : (2 ≤ stays x ↔ 2 ≤ x) ∧ (1 ≤ stays x ↔ 2 ≤ x) := by
  unfold stays; split <;> omega
theorem mono_no : MonoF noF := fun _ _ _ h => h
theorem mono_atF (g : Tgt) : MonoF (atF g) := fun _ _ h => h g
theorem mono_any (f : Nat) (xs : List Int) : MonoF (anyF f xs) := fun M M' h h1 => by
  obtain ⟨v, hv, h2⟩ := List.any_eq_true.1 h1
  exact List.any_eq_true.2 ⟨v, hv, h _ h2⟩
theorem mono_get (f : Nat) (i : SsaIns) (my : Bool) : MonoF (getF f i my) := fun M M' h h1 => by
  unfold getF at h1 ⊢
  rw [Bool.or_eq_true, Bool.or_eq_true] at h1 ⊢
  rcases h1 with (h1 | h1) | h1
  · exact .inl (.inl (mono_any _ _ _ _ h h1))
  · exact .inl (.inr h1)
  · exact .inr (h _ h1)
theorem mono_sure (f : Nat) (i : SsaIns) : MonoF (sureF f i) := fun M M' h h1 => by
  unfold sureF at h1 ⊢
  rw [Bool.or_eq_true] at h1 ⊢
  exact h1.imp (mono_any _ _ _ _ h) (h _)
theorem ofE_r (f : Nat) (xs : List Int) {L : Lb} (h : ∀ g, 0 ≤ L g ∧ L g ≤ 2) : 0 ≤ ofE f xs L ∧ ofE f xs L ≤ 2 := fold_in (fun v => h (0, f, v)) ⟨Int.le_refl _, by decide⟩
theorem sure_to {c : Fb → Bool} (hm : MonoF c) {L : Lb} (h : c (fun g => decide (2 ≤ L g)) = true) : c (fun g => decide (1 ≤ L g)) = true := hm _ _ (fun g hg => by
  have := of_decide_eq_true hg
  exact decide_eq_true (by omega)) h
/-- A value's request, behind what may be a cut. -/
theorem corrV {x : Fx} {f : Nat} {v : Int} {e : Lb → Int} {to sure : Fb → Bool} (hr : ∀ L : Lb, (∀ g, 0 ≤ L g ∧ L g ≤ 2) → 0 ≤ e L ∧ e L ≤ 2)
    (h2 : ∀ L : Lb, (∀ g, 0 ≤ L g ∧ L g ≤ 2) → (2 ≤ e L ↔ sure (fun g => decide (2 ≤ L g)) = true))
    (h1 : x.stay = false → ∀ L : Lb, (∀ g, 0 ≤ L g ∧ L g ≤ 2) → (∀ g, g.1 ≠ 0 → L g ≠ 1) → (1 ≤ e L ↔ to (fun g => decide (1 ≤ L g)) = true ∨ sure (fun g => decide (2 ≤ L g)) = true))
    (hts : x.stay = true → ∀ M, to M = true → sure M = true) (mt : MonoF to) (ms : MonoF sure) : Corr x (rqV x.C f v e) ⟨(0, f, v), to, sure⟩ := by
  refine ⟨rfl, fun L hL => ?_, fun hs L hL hn => ?_, hts, mt, ms⟩
  · show 2 ≤ cutE x.C f v e L ↔ _
    unfold cutE
    split
    · rw [(stays2 (hr L hL)).1]; exact h2 L hL
    · exact h2 L hL
  · show 1 ≤ cutE x.C f v e L ↔ ((to _ && !x.C f v) || sure _) = true
    unfold cutE
    split
    · rename_i hc
      rw [(stays2 (hr L hL)).2, h2 L hL, hc]
      simp
    · rename_i hc
      rw [h1 hs L hL hn, Bool.eq_false_iff.2 hc]
      simp
theorem corrAt {x : Fx} {f : Nat} {v : Int} (g : Tgt) : Corr x (rqV x.C f v fun L => L g) ⟨(0, f, v), atF g, atF g⟩ :=
  corrV (fun L hL => hL g) (fun L hL => by show _ ↔ decide (2 ≤ L g) = true; rw [decide_eq_true_eq]) (fun _ L hL _ => by
    show _ ↔ decide (1 ≤ L g) = true ∨ decide (2 ≤ L g) = true
    rw [decide_eq_true_eq, decide_eq_true_eq]; omega) (fun _ M h => h) (mono_atF g) (mono_atF g)
theorem corrStay {x : Fx} {f : Nat} {v : Int} (g : Tgt) : Corr x (rqV x.C f v fun L => stays (L g)) ⟨(0, f, v), noF, atF g⟩ :=
  corrV (fun L hL => stays_in (hL g)) (fun L hL => by show _ ↔ decide (2 ≤ L g) = true; rw [decide_eq_true_eq]; exact (stays2 (hL g)).1) (fun _ L hL _ => by
    show _ ↔ false = true ∨ decide (2 ≤ L g) = true
    rw [decide_eq_true_eq, (stays2 (hL g)).2]; simp) (fun _ M h => by cases h) mono_no (mono_atF g)
/-- .. of an array, of what is returned: what is there is never Transient. -/
theorem corrMem {x : Fx} {h : Tgt} {e : Lb → Int} (g : Tgt) (he : ∀ L : Lb, (∀ g, 0 ≤ L g ∧ L g ≤ 2) → (2 ≤ e L ↔ 2 ≤ L g) ∧ (1 ≤ e L ↔ 2 ≤ L g)) : Corr x ⟨h, e⟩ ⟨h, noF, atF g⟩ :=
  ⟨rfl, fun L hL => by show _ ↔ decide (2 ≤ L g) = true; rw [decide_eq_true_eq]; exact (he L hL).1, fun _ L hL _ => by
    show _ ↔ ((false && _) || decide (2 ≤ L g)) = true
    rw [Bool.false_and, Bool.false_or, decide_eq_true_eq]; exact (he L hL).2, fun _ M h => (by cases h), mono_no, mono_atF g⟩
theorem pairsI {p : SsaProg} {x : Fx} {W : List Bool} {f : Nat} {i : SsaIns} (hi : InsR p i) (hl : W.length = p.fArrays.xs.length) (hW : x.stay = false → ∀ a, a < p.fArrays.xs.length → nth W a = (x.stores || nth x.sets a)) : Pairs (Corr x) (rqI p x.C W f i) (fqI p x f i) := by
  have hn := hi.n
  unfold rqI fqI
  by_cases h1 : i.fOp = 1
  · rw [if_pos h1, if_neg (by omega), if_neg (by omega), if_neg (by omega), if_neg (by omega), if_neg (by omega)]
    refine ⟨fun q hq => .inl fun L => ?_, fun r hr => (nomatch hr)⟩
    rw [List.mem_singleton] at hq
    rw [hq]
    show cutE x.C f i.fDst (fun _ => 0) L ≤ 0
    unfold cutE
    split
    · exact (by decide : stays 0 ≤ 0)
    · exact Int.le_refl _
  rw [if_neg h1]
  by_cases h2 : i.fOp = 2
  · rw [if_pos h2, if_pos h2]
    exact .one (corrV (fun L hL => ofE_r _ _ hL) (fun L hL => ofE_ge (by decide)) (fun _ L hL _ => by
      rw [ofE_ge (by decide)]
      exact ⟨.inl, fun h => h.elim id (sure_to (mono_any _ _))⟩) (fun _ M h => h) (mono_any _ _) (mono_any _ _))
  rw [if_neg h2, if_neg h2]
  by_cases h3 : i.fOp = 3 ∨ i.fOp = 5
  · rw [if_pos h3, if_pos h3]
    have ha := hi.arr (by omega)
    have hm := mayL_in (W := W) (i := i)
    refine .one (corrV (fun L hL => ?_) (fun L hL => ?_) (fun hs L hL _ => ?_) (fun hs M h => ?_) (mono_get _ _ _) (mono_sure _ _))
    · have := hL (1, i.fArr.toNat, 0)
      have := ofE_r f i.fArgs.xs hL
      omega
    · have := ofE_ge (f := f) (xs := i.fArgs.xs) (L := L) (k := 2) (by decide)
      unfold sureF
      rw [Bool.or_eq_true, ← this, decide_eq_true_eq]
      show 2 ≤ max (max (L (1, i.fArr.toNat, 0)) (ofE f i.fArgs.xs L)) (mayL W i) ↔ _
      omega
    · have h5 : (sureF f i fun g => decide (2 ≤ L g)) = true → (getF f i (mayF x i) fun g => decide (1 ≤ L g)) = true := fun h => by
        unfold sureF at h
        unfold getF
        rw [Bool.or_eq_true] at h
        rw [Bool.or_eq_true, Bool.or_eq_true]
        rcases h with h | h
        · exact .inl (.inl (sure_to (mono_any _ _) h))
        · refine .inr (decide_eq_true ?_)
          have := of_decide_eq_true h
          omega
      have h6 : 1 ≤ mayL W i ↔ mayF x i = true := by
        have hw := hW hs i.fArr.toNat (by omega)
        unfold mayL mayF
        rw [hs, hw]
        by_cases h7 : i.fOp = 5
        · rw [if_pos (.inl h7)]
          simp [h7]
        · have h8 : i.fOp = 3 := h3.resolve_right h7
          have h9 : ¬ (3 : Int) = 5 := by decide
          cases hb : (x.stores || nth x.sets i.fArr.toNat) with
          | true =>
            rw [if_pos (.inr ⟨h8, by omega, by omega, rfl⟩)]
            simp [h8, hb]
          | false =>
            rw [if_neg (fun h => h.elim h7 fun h => by cases h.2.2.2)]
            simp [h8, hb]
      have h7 := ofE_ge (f := f) (xs := i.fArgs.xs) (L := L) (k := 1) (by decide)
      show 1 ≤ max (max (L (1, i.fArr.toNat, 0)) (ofE f i.fArgs.xs L)) (mayL W i) ↔ _
      constructor
      · intro h
        refine .inl ?_
        unfold getF
        rw [Bool.or_eq_true, Bool.or_eq_true, ← h7, ← h6, decide_eq_true_eq]
        omega
      · intro h
        have h := h.elim id h5
        unfold getF at h
        rw [Bool.or_eq_true, Bool.or_eq_true, ← h7, ← h6, decide_eq_true_eq] at h
        omega
    · unfold getF mayF at h
      rw [hs] at h
      simpa [sureF] using h
  rw [if_neg h3, if_neg h3]
  by_cases h4 : i.fOp = 4
  · rw [if_pos h4, if_pos h4]
    have hl1 : i.fArgs.xs.length = 1 := hn.2.2 (.inl h4)
    obtain ⟨v, hv⟩ : ∃ v, i.fArgs.xs = [v] := by
      cases hx : i.fArgs.xs with
      | nil => rw [hx] at hl1; exact absurd hl1 (by decide)
      | cons v t =>
        cases t with
        | nil => exact ⟨v, rfl⟩
        | cons u t => rw [hx] at hl1; exact absurd hl1 (by simp)
    refine .one (corrMem _ fun L hL => ?_)
    have h1 := hL (0, f, v)
    have h2 : ofE f i.fArgs.xs L = L (0, f, v) := by
      rw [hv]
      show max 0 (L (0, f, v)) = _
      omega
    have h3 : nth i.fArgs.xs 0 = v := by rw [hv]; rfl
    rw [h2, h3]
    exact stays2 h1
  rw [if_neg h4, if_neg h4]
  by_cases h6 : i.fOp = 6
  · rw [if_pos h6, if_pos h6]
    exact .one (corrMem _ fun L hL => stays2 (hL _))
  rw [if_neg h6, if_neg h6]
  by_cases h7 : i.fOp = 7
  · rw [if_pos h7, if_pos h7]
    refine .app ?_ (.one (corrAt _))
    unfold callR callF
    exact .map fun k _ => corrStay _
  · rw [if_neg h7, if_neg h7]
    exact .nil
theorem pairsB {p : SsaProg} (hG : GoodP p) {x : Fx} {W : List Bool} (hl : W.length = p.fArrays.xs.length) (hW : x.stay = false → ∀ a, a < p.fArrays.xs.length → nth W a = (x.stores || nth x.sets a)) {f b : Nat} (hf : f < p.fFuncs.xs.length) (hb : b < (nth p.fFuncs.xs f).fBlocks.xs.length) :
    Pairs (Corr x) (rqB p x.C W f (nth (nth p.fFuncs.xs f).fBlocks.xs b)) (fqB p x f (nth (nth p.fFuncs.xs f).fBlocks.xs b)) := by
  unfold rqB fqB
  refine .app (.app (.flat fun i hi => ?_) (.flat fun w _ => ?_)) ?_
  · obtain ⟨m, hm, rfl⟩ := List.getElem_of_mem hi
    rw [← nth_get hm]
    exact pairsI (hG.ins f hf b hb m hm) hl hW
  · unfold rqW fqW wayR fwayR
    exact .map fun k _ => corrAt _
  · unfold rqE fqE
    split
    · exact .one (corrMem _ fun L hL => stays2 (hL _))
    · exact .nil
theorem pairsP {p : SsaProg} (hG : GoodP p) {x : Fx} {W : List Bool} (hl : W.length = p.fArrays.xs.length) (hW : x.stay = false → ∀ a, a < p.fArrays.xs.length → nth W a = (x.stores || nth x.sets a)) : Pairs (Corr x) (rqP p x.C W p.fFuncs.xs.length) (fqP p x p.fFuncs.xs.length) := by
  unfold rqP fqP rqF fqF
  refine .flat fun f hf => .flat fun b hb => ?_
  have hf := List.mem_range.1 hf
  have hb := List.mem_range.1 hb
  split
  · exact pairsB hG hl hW hf hb
  · exact .nil
def baseF (p : SsaProg) : Fb := fun g => decide (g.1 = 1 ∧ g.2.2 = 0 ∧ g.2.1 < p.fArrays.xs.length ∧ (nth p.fArrays.xs g.2.1).fHold = 2)
theorem baseL_of {p : SsaProg} {g : Tgt} : baseL p g = if baseF p g = true then 2 else 0 := by
  unfold baseL baseF
  split <;> simp_all
theorem Labd.ne {p : SsaProg} {C : Nat → Int → Bool} {s : LSt} (h : Labd p C s) (hr : ∀ g, 0 ≤ labL s g ∧ labL s g ≤ 2) : ∀ g, g.1 ≠ 0 → labL s g ≠ 1 := fun g hg e => by
  have h1 := h.least (fun g => if g.1 ≠ 0 ∧ labL s g = 1 then 0 else labL s g) (fun q hq => ?_) (fun g => ?_) g
  · rw [if_pos ⟨hg, e⟩, e] at h1; exact absurd h1 (by decide)
  · have hq' := goodP q hq
    have h2 : q.e (fun g => if g.1 ≠ 0 ∧ labL s g = 1 then 0 else labL s g) ≤ q.e (labL s) := hq'.m _ _ fun g => by
      show (if _ then (0 : Int) else _) ≤ _
      split
      · exact (hr g).1
      · exact Int.le_refl _
    have h3 := h.closed q hq
    show _ ≤ if _ then (0 : Int) else _
    split
    · rename_i hc
      have h4 := hq'.ne hc.1 fun g => if g.1 ≠ 0 ∧ labL s g = 1 then 0 else labL s g
      have := hc.2
      omega
    · omega
  · show _ ≤ if _ then (0 : Int) else _
    split
    · rename_i hc
      have := h.base g
      rw [baseL_of] at this ⊢
      split
      · rename_i hb
        rw [if_pos hb, hc.2] at this
        exact absurd this (by decide)
      · exact Int.le_refl _
    · exact h.base g
/-- The top level. -/
theorem high_of {p : SsaProg} (hG : GoodP p) {C : Nat → Int → Bool} {s : LSt} (h : Labd p C s) (hr : ∀ g, 0 ≤ labL s g ∧ labL s g ≤ 2) {x : Fx} (hs : x.stay = true) (hC : x.C = C) (hsec : x.sec = id) {n : Nat} (hcl : ClosedF x (fqP p x p.fFuncs.xs.length) (roundsF x (fqP p x p.fFuncs.xs.length) n (baseF p))) :
    ∀ g, roundsF x (fqP p x p.fFuncs.xs.length) n (baseF p) g = decide (2 ≤ labL s g) := by
  subst hC
  have hP := pairsP (x := x) hG (W := writesL p) (by simp [writesL]) (fun h => by rw [hs] at h; cases h)
  have hne := h.ne hr
  have hc : ∀ {r : Fq} {q : Rq}, Corr x q r → ∀ M, cF x r M = true ↔ r.sure M = true := fun {r q} hk M => by
    unfold cF
    rw [hsec, hs]
    simp only [Bool.true_or, Bool.and_true, id, Bool.or_eq_true]
    exact ⟨fun h => h.elim (hk.ts hs M) id, .inr⟩
  have hA : ∀ g, roundsF x (fqP p x p.fFuncs.xs.length) n (baseF p) g = true → decide (2 ≤ labL s g) = true := by
    refine roundsF_le (fun r hr' => ?_) (fun r hr' hcr => ?_) fun g hg => ?_
    · obtain ⟨q, _, hk⟩ := hP.b r hr'
      intro M M' hM h1
      rw [hc hk] at h1 ⊢
      exact hk.ms _ _ hM h1
    · obtain ⟨q, hq, hk⟩ := hP.b r hr'
      rw [hc hk] at hcr
      have h1 := (hk.two (labL s) hr).2 hcr
      have h2 := h.closed q hq
      rw [hk.g] at h2
      exact decide_eq_true (by omega)
    · have := h.base g
      rw [baseL_of, if_pos hg] at this
      exact decide_eq_true this
  generalize hH : roundsF x (fqP p x p.fFuncs.xs.length) n (baseF p) = H at hcl hA
  have hb : ∀ g, baseF p g = true → H g = true := fun g hg => by rw [← hH]; exact roundsF_ge g hg
  have hB := h.least (fun g => if H g = true then 2 else if g.1 = 0 then min (labL s g) 1 else 0) (fun q hq => ?_) (fun g => ?_)
  · intro g
    have h1 := hB g
    have h2 := hr g
    cases e : H g with
    | true => exact (hA g e).symm
    | false =>
      rw [if_neg (by rw [e]; decide)] at h1
      refine (decide_eq_false ?_).symm
      split at h1 <;> omega
  · have hq' := goodP q hq
    have hle : ∀ g, (if H g = true then 2 else if g.1 = 0 then min (labL s g) 1 else 0) ≤ labL s g := fun g => by
      have h2 := hr g
      split
      · rename_i e; exact of_decide_eq_true (hA g e)
      · split <;> omega
    have hr2 : ∀ g, 0 ≤ (if H g = true then 2 else if g.1 = 0 then min (labL s g) 1 else 0) ∧ (if H g = true then (2 : Int) else if g.1 = 0 then min (labL s g) 1 else 0) ≤ 2 := fun g => by
      have h2 := hr g
      split
      · decide
      · split <;> omega
    have h1 : q.e (fun g => if H g = true then 2 else if g.1 = 0 then min (labL s g) 1 else 0) ≤ q.e (labL s) := hq'.m _ _ hle
    have h3 := h.closed q hq
    have h4 : q.e (fun g => if H g = true then 2 else if g.1 = 0 then min (labL s g) 1 else 0) ≤ 2 := hq'.ub _ fun g => (hr2 g).2
    rcases hP.a q hq with h0 | ⟨r, hr', hk⟩
    · exact Int.le_trans (h0 _) (hr2 q.g).1
    · show _ ≤ if H q.g = true then (2 : Int) else _
      by_cases e : H q.g = true
      · rw [if_pos e]; exact h4
      · have h5 : ¬ 2 ≤ q.e (fun g => if H g = true then 2 else if g.1 = 0 then min (labL s g) 1 else 0) := fun h6 => by
          have h7 := (hk.two _ hr2).1 h6
          refine e ?_
          rw [hk.g]
          refine hcl r hr' ((hc hk _).2 (hk.ms _ _ (fun g hg => ?_) h7))
          have h8 := of_decide_eq_true hg
          by_cases e2 : H g = true
          · exact e2
          · rw [if_neg e2] at h8
            split at h8 <;> omega
        rw [if_neg e]
        split
        · omega
        · rename_i hg
          have := hq'.ne hg fun g => if H g = true then 2 else if g.1 = 0 then min (labL s g) 1 else 0
          omega
  · rw [baseL_of]
    have h2 := hr g
    split
    · rename_i hg
      rw [if_pos (hb g hg)]; exact Int.le_refl _
    · split
      · decide
      · split <;> omega
/-- The lower one. -/
theorem low_of {p : SsaProg} (hG : GoodP p) {C : Nat → Int → Bool} {s : LSt} (h : Labd p C s) (hr : ∀ g, 0 ≤ labL s g ∧ labL s g ≤ 2) {x : Fx} (hs : x.stay = false) (hC : x.C = C) (hsec : x.sec = fun _ g => decide (2 ≤ labL s g)) (hW : ∀ a, a < p.fArrays.xs.length → nth (writesL p) a = (x.stores || nth x.sets a)) {n : Nat} (hcl : ClosedF x (fqP p x p.fFuncs.xs.length) (roundsF x (fqP p x p.fFuncs.xs.length) n (baseF p))) :
    ∀ g, roundsF x (fqP p x p.fFuncs.xs.length) n (baseF p) g = decide (1 ≤ labL s g) := by
  subst hC
  have hP := pairsP (x := x) hG (W := writesL p) (by simp [writesL]) (fun _ => hW)
  have hne := h.ne hr
  have hc : ∀ (r : Fq) M, cF x r M = ((r.to M && !x.C r.g.2.1 r.g.2.2) || r.sure fun g => decide (2 ≤ labL s g)) := fun r M => by
    unfold cF
    rw [hsec, hs, Bool.false_or]
  have hA : ∀ g, roundsF x (fqP p x p.fFuncs.xs.length) n (baseF p) g = true → decide (1 ≤ labL s g) = true := by
    refine roundsF_le (fun r hr' => ?_) (fun r hr' hcr => ?_) fun g hg => ?_
    · obtain ⟨q, _, hk⟩ := hP.b r hr'
      intro M M' hM h1
      rw [hc, Bool.or_eq_true, Bool.and_eq_true] at h1 ⊢
      exact h1.imp (fun h => ⟨hk.mt _ _ hM h.1, h.2⟩) id
    · obtain ⟨q, hq, hk⟩ := hP.b r hr'
      rw [hc] at hcr
      have h1 := (hk.one hs (labL s) hr hne).2 hcr
      have h2 := h.closed q hq
      rw [hk.g] at h2
      exact decide_eq_true (by omega)
    · have := h.base g
      rw [baseL_of, if_pos hg] at this
      exact decide_eq_true (by omega)
  generalize hH : roundsF x (fqP p x p.fFuncs.xs.length) n (baseF p) = H at hcl hA
  have hb : ∀ g, baseF p g = true → H g = true := fun g hg => by rw [← hH]; exact roundsF_ge g hg
  have hB := h.least (fun g => if H g = true then labL s g else 0) (fun q hq => ?_) (fun g => ?_)
  · intro g
    have h1 := hB g
    have h2 := hr g
    cases e : H g with
    | true => exact (hA g e).symm
    | false =>
      rw [if_neg (by rw [e]; decide)] at h1
      exact (decide_eq_false (by omega)).symm
  · have hq' := goodP q hq
    have hle : ∀ g, (if H g = true then labL s g else 0) ≤ labL s g := fun g => by
      have h2 := hr g
      split <;> omega
    have hr2 : ∀ g, 0 ≤ (if H g = true then labL s g else 0) ∧ (if H g = true then labL s g else 0) ≤ 2 := fun g => by
      have h2 := hr g
      split <;> omega
    have h1 : q.e (fun g => if H g = true then labL s g else 0) ≤ q.e (labL s) := hq'.m _ _ hle
    have h3 := h.closed q hq
    rcases hP.a q hq with h0 | ⟨r, hr', hk⟩
    · exact Int.le_trans (h0 _) (hr2 q.g).1
    · show _ ≤ if H q.g = true then labL s q.g else 0
      by_cases e : H q.g = true
      · rw [if_pos e]; omega
      · rw [if_neg e]
        refine Int.not_lt.1 fun h6 => e ?_
        have h7 := (hk.one hs _ hr2 (fun g hg => by
          have := hne g hg
          split
          · exact this
          · decide)).1 (by omega)
        rw [hk.g]
        refine hcl r hr' ?_
        rw [hc]
        rw [Bool.or_eq_true, Bool.and_eq_true] at h7 ⊢
        refine h7.imp (fun h8 => ⟨hk.mt _ _ (fun g hg => ?_) h8.1, h8.2⟩) (hk.ms _ _ fun g hg => ?_)
        · have h8 := of_decide_eq_true hg
          by_cases e2 : H g = true
          · exact e2
          · rw [if_neg e2] at h8; exact absurd h8 (by decide)
        · have h8 := of_decide_eq_true hg
          have := hle g
          exact decide_eq_true (by omega)
  · rw [baseL_of]
    have h2 := hr g
    split
    · rename_i hg
      have := h.base g
      rw [baseL_of, if_pos hg] at this
      rw [if_pos (hb g hg)]; exact this
    · split <;> omega
end Go.Proofs.Ytomhieglgfjloaa
