/- Layer 7: right. -/
import Derived.Test.YtfplmdjlgjgbgaaS1
namespace Go.Proofs.Ytfplmdjlgjgbgaa
set_option linter.unusedVariables false
set_option linter.unusedSimpArgs false
open Go Go.RowKit

def rightB (p : SsaProg) (i : SsaIns) : Bool :=
  if (shapeB i.fOp).1 = -2 then false else if 0 ≤ (shapeB i.fOp).1 ∧ ¬ (i.fArgs.xs.length : Int) = (shapeB i.fOp).1 then false else if ¬ (shapeB i.fOp).2 = decide (0 < i.fDst) then false else if i.fDst < 0 then false
  else if i.fOp = 2 then decide (1 ≤ i.fBin ∧ i.fBin ≤ 15)
  else if i.fOp = 3 ∨ i.fOp = 4 then decide (0 ≤ i.fArr ∧ i.fArr < p.fArrays.xs.length ∧ (nth p.fArrays.xs i.fArr.toNat).fSize = 0)
  else if i.fOp = 5 ∨ i.fOp = 6 then decide (0 ≤ i.fArr ∧ i.fArr < p.fArrays.xs.length ∧ 0 < (nth p.fArrays.xs i.fArr.toNat).fSize)
  else if i.fOp = 7 then decide (0 ≤ i.fFn ∧ i.fFn < p.fFuncs.xs.length ∧ 0 < (nth p.fFuncs.xs i.fFn.toNat).fBlocks.xs.length ∧ i.fArgs.xs.length = (nth (nth p.fFuncs.xs i.fFn.toNat).fBlocks.xs 0).fParams.xs.length)
  else true
set_option maxHeartbeats 2000000 in
theorem right_spec (p : SsaProg) (i : SsaIns) : Spec Try.prog 35 [.agg (Enc.enc p).toArray, .agg (Enc.enc i).toArray] [] (fun ok w => RdD ok w p ∧ RdD ok w i) fun v L' => v = .bool (rightB p i) ∧ L' = [] := by
  refine spec_of Try.func35 rfl rfl fun w0 f0 ⟨hp, hi⟩ => ?_
  (repeat' (first | refine s_assign ?_ | refine s_nil ?_ | (refine k_C ?_; first | refine s_seq ?_ | refine s_region ?_) | (refine k_E ?_; refine e_seq ?_) | (refine k_load ?_; refine s_ldB rfl rfl ?_) | (refine k_fld ?_; refine s_fldB rfl ?_) | (refine s_box _ rfl ?_; intro b)))
  refine s_call0 (shape_spec i.fOp) rfl (fun _ _ => trivial) ?_
  rintro v L' ⟨rfl, rfl⟩
  generalize hsh : shapeB i.fOp = sh
  obtain ⟨sn, sb⟩ := sh
  (repeat' (first | refine s_move ?_ | refine s_assign ?_ | refine s_nil ?_ | (refine k_C ?_; first | refine s_seq ?_ | refine s_region ?_ | refine s_stillP foI rfl (by kernel_rfl) ?_ | refine s_skip ?_ | refine s_block ?_ | refine s_ret ?_ | refine s_ift rfl ?_ | (refine s_ifd rfl ?_ ?_ <;> intro hc <;> try (exfalso; omega))) | (refine k_E ?_; first | refine e_seq ?_ | refine e_seq_ret ?_ | refine e_bk_ret ?_ | refine e_bk ?_) | (refine k_load ?_; first | refine s_ldB rfl rfl ?_ | refine s_ldS rfl rfl om rfl ?_ | refine s_ldSF rfl rfl om rfl ?_) | (refine k_bin ?_; first | refine s_lss rfl rfl ?_ | refine s_eql rfl rfl ?_ | refine s_neq rfl rfl ?_ | refine s_gtr rfl rfl ?_ | refine s_geq rfl rfl ?_ | refine s_bne rfl rfl ?_) | (refine k_fld ?_; first | refine s_fld rfl ?_ | refine s_fldB rfl ?_) | (refine k_idx ?_; first | refine s_idxS rfl rfl om ?_ | refine s_idxSI rfl rfl om om ?_) | (refine k_call ?_; refine s_len rfl ?_) | (refine k_guard ?_; first | refine s_on rfl rfl ?_ | refine s_off rfl rfl rfl rfl ?_ | refine s_offU rfl rfl rfl rfl ?_ | (refine s_casesd rfl rfl ?_ ?_ <;> intro hc <;> try (exfalso; omega)) | (refine s_casesn rfl rfl ?_ ?_ <;> intro hc <;> try (exfalso; omega))) | refine s_pick rfl ?_ | refine s_extract rfl rfl ?_))
  all_goals first
    | (refine s_call0 (known_op_spec i.fBin) rfl (fun _ _ => trivial) ?_
       rintro v L' ⟨rfl, rfl⟩
       (repeat' (first | refine s_assign ?_ | refine s_nil ?_ | (refine k_C ?_; refine s_ret ?_) | (refine k_E ?_; first | refine e_seq ?_ | refine e_seq_ret ?_ | refine e_bk_ret ?_)))
       refine e_done rfl rfl _ (PSub.take [] rfl) ⟨?_, rfl⟩
       show Value.bool _ = Value.bool _
       congr 1
       simp_all [rightB] <;> intros <;> first | omega | (rw [Bool.eq_iff_iff]; simp only [Bool.and_eq_true, Bool.or_eq_true, Bool.not_eq_true', decide_eq_true_eq, decide_eq_false_iff_not]; omega))
    | (refine e_done rfl rfl _ (PSub.take [] rfl) ⟨?_, rfl⟩
       show Value.bool _ = Value.bool _
       congr 1
       simp_all [rightB] <;> intros <;> first | omega | (rw [Bool.eq_iff_iff]; simp only [Bool.and_eq_true, Bool.or_eq_true, Bool.not_eq_true', decide_eq_true_eq, decide_eq_false_iff_not]; omega))

theorem check1_spec (p : SsaProg) (i : SsaIns) (b : Nat) : Spec Try.prog 34 ([.agg (Enc.enc i).toArray] ++ [.pointer (some ⟨b, 0, none⟩)]) [] (fun ok w => (RdB ok w b p ∧ RdD ok w p) ∧ RdD ok w i) fun v L' => v = .bool (!rightB p i) ∧ L' = [] := by
  refine spec_of Try.func34 rfl rfl fun w0 f0 ⟨⟨hb, hp⟩, hi⟩ => ?_
  (repeat' (first | refine s_assign ?_ | refine s_nil ?_ | (refine k_C ?_; first | refine s_seq ?_ | refine s_region ?_) | (refine k_E ?_; refine e_seq ?_) | (refine k_load ?_; first | refine s_ldBW rfl rfl ?_ | refine s_ldRBA rfl (by decide) ?_) | (refine s_box _ rfl ?_; intro b)))
  refine s_call0 (right_spec p i) rfl (fun w1 H => ⟨H.rdD hp, H.rdD hi⟩) ?_
  rintro v L' ⟨rfl, rfl⟩
  (repeat' (first | refine s_assign ?_ | refine s_nil ?_ | (refine k_C ?_; refine s_ret ?_) | (refine k_E ?_; refine e_seq ?_) | refine s_not rfl ?_))
  exact e_done rfl rfl _ (PSub.take [] rfl) ⟨rfl, rfl⟩
end Go.Proofs.Ytfplmdjlgjgbgaa
