/- Regions in drawn order in which no operation comes last of all: each order, from its beginning to its end. -/
import Derived.Test.YtomhieglgfjloaaA10
namespace Go.Proofs.Ytomhieglgfjloaa
set_option linter.unusedVariables false
set_option linter.unusedSimpArgs false
open Go Go.RowKit

section
variable {P : Program} {n : Nat} {ops : Array Oper} {md : Region.Mode} {w : World}
theorem ready_lt {listed : Array Bool} {j : Nat} (h : j ∈ Region.ready md ops listed) : j < ops.size := by
  obtain ⟨_, oj, hoj, _⟩ := mem_ready.1 h
  exact (Array.getElem?_eq_some_iff.1 hoj).1
theorem wpJ_firstA {J : World → Prop} {i : Nat} {oi : Oper} {v : Value} {Q : Exit → Act → World → Prop} (hi : ops[i]? = some oi) (hsel : ∀ (j : Nat) (o : Oper) cs b, ops[j]? = some o → o.op ≠ .select cs b)
    (hQ : ∀ c a w, Q (.panic c) (a.put oi.dst v) w → Q (.panic c) a w) :
    ∀ (f : Nat) (listed : Array Bool) (a : Act) (w : World), HeadInv md ops ops.size listed →
      (∀ j oj, ops[j]? = some oj → j ≠ i → listed.getD j true = false → (∀ e ∈ oj.after, Region.binds md e = true → e.on ≠ i) → oi.apart ops oj = true) →
      i ∈ Region.ready md ops listed → YJ P ops J oi v a → J w →
      wpJ P md ops J ops.size Q f (listed.setIfInBounds i true) (a.put oi.dst v) w → wpJ P md ops J ops.size Q (f + 1) listed a w := by
  intro f
  induction f with
  | zero =>
    intro listed a w inv _ hr hy hJ H
    refine ⟨fun h => (by rw [h] at hr; cases hr), fun j hj => ?_⟩
    by_cases hji : j = i
    · subst hji; exact YieldsAt.wpOp' hi (hy w hJ) ⟨fun _ => hJ, H⟩
    · have := ready_mono hj hji
      rw [H.1] at this
      cases this
  | succ f ih =>
    intro listed a w inv hfree hr hy hJ H
    have hun := (mem_ready.1 hr).1
    have hin := ready_lt hr
    refine ⟨fun h => (by rw [h] at hr; cases hr), fun j hj => ?_⟩
    have hjn : j < ops.size := ready_lt hj
    by_cases hji : j = i
    · subst hji; exact YieldsAt.wpOp' hi (hy w hJ) ⟨fun _ => hJ, H⟩
    · have h1 := H.2 j (ready_mono hj hji)
      obtain ⟨hjun, oj, hoj, hall⟩ := mem_ready.1 hj
      have hnot : ∀ e ∈ oj.after, Region.binds md e = true → e.on ≠ i := fun e he hb heq => by
        have h1 := hall e he hb
        rw [heq, getD_both hun] at h1
        cases h1
      have hap := hfree j oj hoj hji hjun hnot
      obtain ⟨_, _, h3⟩ := Oper.apart_spec hap
      have h2 := wpOp_put' hoj hap (fun cs b => hsel j oj cs b hoj) hQ
        (fun a hy u w' hw' => (hy w' hw').of_same (execOp_put oi (fun cs b => hsel i oi cs b hi) a oj.dst u h3) (wanted_put oi a oj.dst u h3)) (fun a d hy w' hw' => (hy w' hw').of_same rfl rfl) hy h1
      have hfree' : ∀ k ok, ops[k]? = some ok → k ≠ i → (listed.setIfInBounds j true).getD k true = false →
          (∀ e ∈ ok.after, Region.binds md e = true → e.on ≠ i) → oi.apart ops ok = true := fun k ok hk hki hun hno => by
        refine hfree k ok hk hki ?_ hno
        by_cases hjk : j = k
        · subst hjk; exact hjun
        · rw [getD_set_ne true hjk] at hun; exact hun
      refine wpOp_mono (fun a' w' h3 => ⟨h3.2.1, ih (listed.setIfInBounds j true) a' w' (inv.set hj hjn) hfree' (ready_mono hr (Ne.symm hji)) h3.1 (h3.2.1 hjn) ?_⟩) h2
      rw [Array.setIfInBounds_comm _ _ hji]
      exact h3.2.2
theorem wpJ_rdsA {J : World → Prop} {M : Nat} {md : Region.Mode} {l : List Oper} {Q : Exit → Act → World → Prop} {F : Fr} (hp : ∀ e a w, e ≠ .normal → ¬ Q e a w)
    (hsel : Region.noSelect l.toArray = true) (K : Array Bool → Bool) :
    ∀ (rs : List Nat) (listed : Array Bool) (a : Act), a.tmps.size = n → HeadInv md l.toArray l.toArray.size listed → dstsB n (opsAt l rs) = true → rdAt md l.toArray l.toArray.size K rs listed = true → J w →
      (∀ w', J w' → wpStill P l.toArray w' (fun a' => Sm n a' F) (opsAt l rs) a) →
      (∀ a listed, Sm n a F → HeadInv md l.toArray l.toArray.size listed → K listed = true → wpJ P md l.toArray J l.toArray.size Q M listed a w) → wpJ P md l.toArray J l.toArray.size Q (rs.length + M) listed a w
  | [], listed, a, _, inv, _, hB, hJ, h, hr => by
    rw [List.length_nil, Nat.zero_add]
    exact hr a listed (h w hJ) inv hB
  | k :: rs, listed, a, ha, inv, hD, hB, hJ, h, hr => by
    simp only [rdAt, Bool.and_eq_true] at hB
    obtain ⟨⟨⟨hr1, hf⟩, hkn⟩, hB'⟩ := hB
    have hkN : k < l.toArray.size := by rw [← Nat.blt_eq]; exact hkn
    have hk : k < l.length := by simpa using hkN
    have h0 : l[k]? = some l[k] := List.getElem?_eq_getElem hk
    have h0' : l.toArray[k]? = some l[k] := by simp [h0]
    have e1 : opsAt l (k :: rs) = l[k] :: opsAt l rs := by simp [opsAt, h0]
    have hr' : k ∈ Region.ready md l.toArray listed := by simpa using hr1
    rw [e1] at hD
    simp only [dstsB, Bool.and_eq_true] at hD
    have hst : ∀ w', J w' → ∃ v, YieldsAt P l.toArray w' l[k] v a ∧ wpStill P l.toArray w' (fun a' => Sm n a' F) (opsAt l rs) (a.put l[k].dst v) := fun w' hw' => by
      have := h w' hw'
      rw [e1] at this
      refine yieldsAt_of_stOp h0' ?_
      unfold stOp
      simp only [h0']
      exact this
    have same : ∃ v, ∀ w', J w' → YieldsAt P l.toArray w' l[k] v a ∧ wpStill P l.toArray w' (fun a' => Sm n a' F) (opsAt l rs) (a.put l[k].dst v) := by
      cases hd : l[k].dst with
      | none => rw [hd] at hD; exact absurd hD.1 (by simp)
      | some d =>
        rw [hd] at hD
        simp only [Bool.and_eq_true] at hD
        obtain ⟨⟨hdn, hall⟩, _⟩ := hD
        have hdn : d < n := by rw [← Nat.blt_eq]; exact hdn
        refine ⟨F d, fun w' hw' => ?_⟩
        obtain ⟨v, hv, hv2⟩ := hst w' hw'
        have := still_keep hdn _ _ (fun o ho => by have := List.all_eq_true.1 hall o ho; simpa using this) hv2
        rw [hd] at this
        have e2 : (a.put (some d) v).tmps[d]? = some v := by
          show (a.tmps.setIfInBounds d v)[d]? = some v
          rw [Array.getElem?_setIfInBounds_self_of_lt (by rw [ha]; exact hdn)]
        rw [e2] at this
        cases this
        rw [← hd]
        exact ⟨hv, hv2⟩
    obtain ⟨v, hv⟩ := same
    rw [show (k :: rs).length + M = rs.length + M + 1 by simp; omega]
    exact wpJ_firstA h0' (Region.noSelect_spec hsel) (fun c a w hq' => absurd hq' (hp _ _ _ (by simp))) _ listed a w inv (Region.free_spec h0' hf) hr' (fun w' hw' => (hv w' hw').1) hJ
      (wpJ_rdsA hp hsel K rs _ _ (by cases hd : l[k].dst <;> simp [Act.put, ha]) (inv.set hr' hkN) hD.2 hB' hJ (fun w' hw' => (hv w' hw').2) hr)
end
section
variable {P : Program} {n : Nat} {w0 : World} {f0 : FP} {rest : List Oper} {QC : Exit → Fr → World → Prop} {f : Fr} {L L0 : List HP} {l : List Oper} {fuel : Nat} {listed li' : Array Bool}
/-- Any region in drawn order. -/
theorem s_drawA {id : Nat} (L0 : List HP) (hm : P.follows .mixedOrders = true) (hB : Region.noSelect l.toArray = true) (hL0 : PSub w0 f0 L L0) (h : sD P n w0 f0 l l.toArray.size L0 QC l.length (Array.replicate l.length false) f L) : sC P n w0 f0 (.region id l.toArray true) QC f L := by
  intro w H
  unfold wC
  intro a ha
  refine wp_mono (Q := fun e a' w' => e = .normal ∧ ∃ f', Sm n a' f' ∧ QC .normal f' w') ?_ (by rintro e a' w' ⟨rfl, h⟩; exact h)
  refine wp_region_any hm (wpAny_of_J (J := fun w' => St w0 f0 L0 w') (n := l.toArray.size) _ _ _ _ ?_)
  have inv0 : HeadInv .any l.toArray l.toArray.size (Array.replicate l.toArray.size false) :=
    ⟨by simp, fun j oj _ hl => (by rw [getD_replicate_false] at hl; cases hl), fun t _ ht => getD_in (by simpa using ht) (getD_replicate_false _ _)⟩
  exact h _ (H.idle (Step.drew w _)) inv0 (hL0 _ (H.idle (Step.drew w _))) a ha
theorem dA_rd (li' : Array Bool) (rs : List Nat) (F : Fr) (hsel : Region.noSelect l.toArray = true) (hB : (dstsB n (opsAt l rs) && rdAt .any l.toArray l.toArray.size (fun li => decide (li = li')) rs listed) = true) (hread : sO P n w0 f0 l.toArray true (opsAt l rs) (QCF F) f L0) (h : sD P n w0 f0 l l.toArray.size L0 QC fuel li' F L) : sD P n w0 f0 l l.toArray.size L0 QC (rs.length + fuel) listed f L := by
  intro w H inv hJ a hs
  rw [Bool.and_eq_true] at hB
  refine wpJ_rdsA (F := F) (fun e a w he h => he h.1) hsel (fun li => decide (li = li')) rs listed a hs.size inv hB.1 hB.2 hJ (fun w' hw' => wC_mix.stillMono (fun a' h => by obtain ⟨f', h5, h6⟩ := h; exact h6 ▸ h5) (wO_still (hread w' hw') hs)) fun a' li hs' inv' hk => ?_
  have hk := of_decide_eq_true hk
  subst hk
  exact h w H inv' hJ a' hs'
theorem dA_end (hB : (Region.ready .any l.toArray listed).isEmpty = true) (h : sE w0 f0 QC .normal f L) : sD P n w0 f0 l l.toArray.size L0 QC 0 listed f L := by
  intro w H inv hJ a hs
  exact ⟨List.isEmpty_iff.1 hB, rfl, f, hs, h w H⟩
end
theorem PSub.underA {w0 : World} {f0 : FP} {L L' : List HP} {X : HP} (h : ∀ w0 f0, PSub w0 f0 L L') : PSub w0 f0 (X :: L) (X :: L') := fun w H => by
  obtain ⟨g, ⟨f1, f2, e1, e2, h1, h2⟩, hb⟩ := H.sf
  obtain ⟨_, f3, h3, h4⟩ := h w f2 w (St.start h2)
  have h5 : ∀ b, f3 b → f2 b := fun b hb3 => (h4 b hb3).resolve_right (Nat.not_le.2 (h3.dom b hb3))
  exact ⟨H.step, fun b => f1 b ∨ f3 b, ⟨f1, f3, fun b => Iff.rfl, fun b hb1 hb3 => e2 b hb1 (h5 b hb3), h1, h3⟩, fun b hb' => hb b ((e1 b).2 (hb'.imp id (h5 b)))⟩
end Go.Proofs.Ytomhieglgfjloaa
