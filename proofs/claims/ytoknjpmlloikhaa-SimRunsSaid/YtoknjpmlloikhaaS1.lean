/- Layer 7, the small parts: shape, right, Params; functions handed on. -/
import Derived.Test.YtoknjpmlloikhaaInst
import Derived.Test.YtoknjpmlloikhaaA10
namespace Go.Proofs.Ytoknjpmlloikhaa
set_option linter.unusedVariables false
set_option linter.unusedSimpArgs false
open Go Go.RowKit

def shapeB (o : Int) : Int × Bool := if o = 1 then (0, true) else if o = 3 then (0, true) else if o = 2 then (2, true) else if o = 4 then (1, false) else if o = 5 then (1, true) else if o = 6 then (2, false) else if o = 7 then (-1, true) else (-2, false)
theorem shape_spec (o : Int) : Spec Try.prog 32 [.int .i64 o] [] (fun _ _ => True) fun v L' => v = .tuple #[.int .i64 (shapeB o).1, .bool (shapeB o).2] ∧ L' = [] := by
  refine spec_of Try.func32 rfl rfl fun w0 f0 _ => ?_
  (repeat' (first | refine s_move ?_ | refine s_assign ?_ | refine s_nil ?_ | (refine k_C ?_; first | refine s_seq ?_ | refine s_region ?_ | refine s_skip ?_ | refine s_block ?_ | refine s_ret ?_ | (refine s_ifd rfl ?_ ?_ <;> intro hc <;> try (exfalso; omega))) | (refine k_E ?_; first | refine e_seq ?_ | refine e_seq_ret ?_ | refine e_bk_ret ?_ | refine e_bk ?_) | (refine k_bin ?_; refine s_eql rfl rfl ?_)))
  all_goals first
    | (refine e_done2 rfl rfl rfl _ (PSub.take [] rfl) ⟨?_, rfl⟩; simp only [shapeB, *]; rfl)
    | skip

theorem known_op_spec (o : Int) : Spec Try.prog 33 [.int .i64 o] [] (fun _ _ => True) fun v L' => v = .bool (decide (1 ≤ o ∧ o ≤ 15)) ∧ L' = [] := by
  refine spec_of Try.func33 rfl rfl fun w0 f0 _ => ?_
  (repeat' (first | refine s_move ?_ | refine s_assign ?_ | refine s_nil ?_ | (refine k_C ?_; first | refine s_seq ?_ | refine s_region ?_ | refine s_ret ?_) | (refine k_E ?_; refine e_seq ?_) | (refine k_bin ?_; first | refine s_geq rfl rfl ?_ | refine s_leq rfl rfl ?_) | (refine k_guard ?_; first | refine s_on rfl rfl ?_ | refine s_off rfl rfl rfl rfl ?_ | (refine s_casesd rfl rfl ?_ ?_ <;> intro hc <;> try (exfalso; omega))) | refine s_pick rfl ?_))
  all_goals refine e_done rfl rfl _ (PSub.take [] rfl) ⟨?_, rfl⟩
  · show Value.bool _ = _
    congr 1
    have h : 1 ≤ o := by assumption
    simp [h]
  · show Value.bool false = _
    congr 1
    symm
    exact decide_eq_false (by omega)

theorem params_spec (f : SsaFunc) : Spec Try.prog 18 [.agg (Enc.enc f).toArray] [] (fun ok w => RdD ok w f) fun v L' => v = (let s := (nth f.fBlocks.xs 0).fParams; .slice s.A s.xs.length s.c) ∧ L' = [] := by
  refine spec_of Try.func18 rfl rfl fun w0 f0 hf => ?_
  (repeat' (first | refine s_assign ?_ | refine s_nil ?_ | (refine k_C ?_; first | refine s_seq ?_ | refine s_region ?_ | refine s_skip ?_ | refine s_ret ?_ | (refine s_ifd rfl ?_ ?_ <;> intro hc <;> try (exfalso; omega))) | (refine k_E ?_; first | refine e_seq ?_ | refine e_seq_ret ?_) | (refine k_load ?_; first | refine s_ldB rfl rfl ?_ | refine s_ldS rfl rfl om rfl ?_) | (refine k_bin ?_; refine s_eql rfl rfl ?_) | (refine k_fld ?_; first | refine s_fld rfl ?_ | refine s_fldB rfl ?_) | (refine k_idx ?_; refine s_idxS rfl rfl om ?_) | (refine k_call ?_; refine s_len rfl ?_) | (refine s_box _ rfl ?_; intro b)))
  · refine e_done rfl rfl _ (PSub.take [] rfl) ⟨?_, rfl⟩
    have : f.fBlocks.xs = [] := List.eq_nil_of_length_eq_zero (by omega)
    rw [this]; rfl
  · exact e_done rfl rfl _ (PSub.take [] rfl) ⟨rfl, rfl⟩

theorem cloneI_spec (s : Sl Int) (hl : s.xs.length ≤ 1000000) : Spec Try.prog 30 [.slice s.A s.xs.length s.c] [] (fun ok w => RdD ok w s) fun v L' => ∃ A c, v = .slice A s.xs.length c ∧ L' = [own 3 A s.xs.length c s.xs] := by
  refine spec_of Try.func30 rfl rfl fun w0 f0 hs => ?_
  (repeat' (first | refine s_move ?_ | refine s_assign ?_ | refine s_nil ?_ | (refine k_C ?_; first | refine s_seq ?_ | refine s_region ?_ | refine s_skip ?_ | refine s_ret ?_ | (refine s_if rfl ?_ ?_ <;> intro hc)) | (refine k_E ?_; first | refine e_seq ?_ | refine e_seq_ret ?_) | (refine k_bin ?_; refine s_snil rfl rfl ?_) | (refine k_call ?_; (refine s_appS rfl rfl om ?_; intro A c)) | (refine s_lit [] rfl (by decide) rfl ?_; intro b)))
  · have h0 : s.xs = [] := by
      rcases hs.h.1.2.2.2 with h | ⟨a, h, _⟩
      · exact List.eq_nil_of_length_eq_zero h
      · rw [h] at hc; cases hc
    refine e_done rfl rfl _ (PSub.nilOwn 3) ⟨none, 0, by rw [h0]; rfl, by rw [h0]; rfl⟩
  · exact e_done rfl rfl _ (PSub.eq (by rw [Nat.zero_add, List.nil_append])) ⟨A, c, congrArg (fun l => Value.slice A l c) (Nat.zero_add _), rfl⟩

theorem idx_Ins_spec (g : FuncId) (cap : List Value) (s : Sl (SsaIns)) (p : SsaIns → Bool) (Rd : FP → World → Prop) (hRd : Lasts Rd) [IsFc Try.prog g] (hp : ∀ x ∈ s.xs, Spec Try.prog g ([.agg (Enc.enc x).toArray] ++ cap) [] (fun ok w => Rd ok w ∧ RdD ok w x) fun v L' => v = .bool (p x) ∧ L' = []) :
    Spec Try.prog 31 [.slice s.A s.xs.length s.c, .func (.func g) #[] cap.toArray] [] (fun ok w => Rd ok w ∧ RdD ok w s) fun v L' => ∃ r : Int, v = .int .i64 r ∧ (0 ≤ r ↔ s.xs.any p = true) ∧ L' = [] := by
  refine spec_of Try.func31 rfl rfl fun w0 f0 ⟨hR, hs⟩ => ?_
  (repeat' (first | refine s_move ?_ | refine s_assign ?_ | refine s_nil ?_ | (refine k_C ?_; first | refine s_seq ?_ | refine s_region ?_ | refine s_block ?_) | (refine k_E ?_; refine e_seq ?_) | (refine k_call ?_; refine s_len rfl ?_)))
  refine s_loop (σ := Nat) (fun k => [(0, .slice s.A s.xs.length s.c), (1, .func (.func g) #[] cap.toArray), (7, .int .i64 s.xs.length), (8, .int .i64 (k : Nat))]) (fun _ => []) (fun k => k ≤ s.xs.length ∧ (s.xs.take k).any p = false) (fun k => s.xs.length - k) 0 (by repeat (first | exact trivial | refine ⟨rfl, ?_⟩)) ⟨Nat.zero_le _, rfl⟩ PSub.refl ?_
  rintro f k ⟨hk, hno⟩
  have hlen : s.xs.length ≤ 9223372036854775807 := by have := hs.h.1.2.1; have := hs.h.1.2.2.1; simp only [maxLen] at *; omega
  have tk : k < s.xs.length → s.xs.take (k + 1) = s.xs.take k ++ [nth s.xs k] := fun h => by rw [List.take_add_one, nth_some h]; rfl
  (repeat' (first | refine s_move ?_ | refine s_assign ?_ | refine s_nil ?_ | (refine k_C ?_; first | refine s_seq ?_ | refine s_region ?_ | refine s_skip ?_ | refine s_block ?_ | refine s_exit ?_ | refine s_ret ?_ | (refine s_ifd rfl ?_ ?_ <;> intro hc <;> try (exfalso; omega))) | (refine k_E ?_; first | refine e_seq ?_ | refine e_seq_exit ?_ | refine e_bk_exit ?_ | refine e_lp_exit ?_) | (refine k_load ?_; refine s_ldSA rfl rfl om rfl ?_) | (refine k_bin ?_; refine s_lss rfl rfl ?_) | (refine k_idx ?_; refine s_idxS rfl rfl om ?_)))
  · have hk2 : k < s.xs.length := by omega
    refine s_callV0 rfl (hp (nth s.xs k) (nth_mem hk2)) rfl (fun w1 H => ⟨hRd.at hR H, H.rdD inferInstance⟩) ?_
    rintro v L' ⟨rfl, rfl⟩
    (repeat' (first | refine s_move ?_ | refine s_assign ?_ | refine s_nil ?_ | (refine k_C ?_; first | refine s_seq ?_ | refine s_region ?_ | refine s_skip ?_ | refine s_ret ?_ | (refine s_if rfl ?_ ?_ <;> intro hc)) | (refine k_E ?_; first | refine e_seq ?_ | refine e_seq_ret ?_ | refine e_bk_ret ?_ | refine e_bk ?_ | refine e_lp_ret ?_) | (refine k_bin ?_; refine s_add1 rfl rfl om ?_)))
    · refine e_done rfl rfl _ (PSub.take [] rfl) ⟨_, rfl, ⟨fun _ => ?_, fun _ => by omega⟩, rfl⟩
      exact List.any_eq_true.2 ⟨_, nth_mem hk2, hc⟩
    · refine e_lp (k + 1) (by repeat (first | exact trivial | refine ⟨rfl, ?_⟩)) ⟨by omega, ?_⟩ (by show _ - _ < _ - _; omega) (PSub.take [] rfl)
      rw [tk hk2, List.any_append, hno]; simp [hc]
  · refine e_done rfl rfl _ (PSub.take [] rfl) ⟨_, rfl, ⟨fun h => absurd h (by decide), fun h => ?_⟩, rfl⟩
    rw [List.take_of_length_le (by omega)] at hno
    rw [hno] at h; cases h
theorem has_Ins_spec (g : FuncId) (cap : List Value) (s : Sl (SsaIns)) (p : SsaIns → Bool) (Rd : FP → World → Prop) (hRd : Lasts Rd) [IsFc Try.prog g] (hp : ∀ x ∈ s.xs, Spec Try.prog g ([.agg (Enc.enc x).toArray] ++ cap) [] (fun ok w => Rd ok w ∧ RdD ok w x) fun v L' => v = .bool (p x) ∧ L' = []) :
    Spec Try.prog 21 [.slice s.A s.xs.length s.c, .func (.func g) #[] cap.toArray] [] (fun ok w => Rd ok w ∧ RdD ok w s) fun v L' => v = .bool (s.xs.any p) ∧ L' = [] := by
  refine spec_of Try.func21 rfl rfl fun w0 f0 ⟨hR, hs⟩ => ?_
  (repeat' (first | refine s_move ?_ | refine s_assign ?_ | refine s_nil ?_ | (refine k_C ?_; first | refine s_seq ?_ | refine s_region ?_) | (refine k_E ?_; refine e_seq ?_)))
  refine s_call0 (idx_Ins_spec g cap s p Rd hRd hp) rfl (fun w1 H => ⟨hRd.at hR H, H.rdD hs⟩) ?_
  rintro v L' ⟨r, rfl, hr, rfl⟩
  (repeat' (first | refine s_assign ?_ | refine s_nil ?_ | (refine k_C ?_; refine s_ret ?_) | (refine k_E ?_; refine e_seq ?_) | (refine k_bin ?_; refine s_geq rfl rfl ?_)))
  refine e_done rfl rfl _ (PSub.take [] rfl) ⟨?_, rfl⟩
  show Value.bool (decide (0 ≤ r)) = _
  congr 1
  rw [Bool.eq_iff_iff, ← hr]; simp

theorem idx_Int_spec (g : FuncId) (cap : List Value) (s : Sl (Int)) (p : Int → Bool) (Rd : FP → World → Prop) (hRd : Lasts Rd) [IsFc Try.prog g] (hp : ∀ x ∈ s.xs, Spec Try.prog g ([.int .i64 x] ++ cap) [] (fun ok w => Rd ok w ∧ RdD ok w x) fun v L' => v = .bool (p x) ∧ L' = []) :
    Spec Try.prog 47 [.slice s.A s.xs.length s.c, .func (.func g) #[] cap.toArray] [] (fun ok w => Rd ok w ∧ RdD ok w s) fun v L' => ∃ r : Int, v = .int .i64 r ∧ (0 ≤ r ↔ s.xs.any p = true) ∧ L' = [] := by
  refine spec_of Try.func47 rfl rfl fun w0 f0 ⟨hR, hs⟩ => ?_
  (repeat' (first | refine s_move ?_ | refine s_assign ?_ | refine s_nil ?_ | (refine k_C ?_; first | refine s_seq ?_ | refine s_region ?_ | refine s_block ?_) | (refine k_E ?_; refine e_seq ?_) | (refine k_call ?_; refine s_len rfl ?_)))
  refine s_loop (σ := Nat) (fun k => [(0, .slice s.A s.xs.length s.c), (1, .func (.func g) #[] cap.toArray), (7, .int .i64 s.xs.length), (8, .int .i64 (k : Nat))]) (fun _ => []) (fun k => k ≤ s.xs.length ∧ (s.xs.take k).any p = false) (fun k => s.xs.length - k) 0 (by repeat (first | exact trivial | refine ⟨rfl, ?_⟩)) ⟨Nat.zero_le _, rfl⟩ PSub.refl ?_
  rintro f k ⟨hk, hno⟩
  have hlen : s.xs.length ≤ 9223372036854775807 := by have := hs.h.1.2.1; have := hs.h.1.2.2.1; simp only [maxLen] at *; omega
  have tk : k < s.xs.length → s.xs.take (k + 1) = s.xs.take k ++ [nth s.xs k] := fun h => by rw [List.take_add_one, nth_some h]; rfl
  (repeat' (first | refine s_move ?_ | refine s_assign ?_ | refine s_nil ?_ | (refine k_C ?_; first | refine s_seq ?_ | refine s_region ?_ | refine s_skip ?_ | refine s_block ?_ | refine s_exit ?_ | refine s_ret ?_ | (refine s_ifd rfl ?_ ?_ <;> intro hc <;> try (exfalso; omega))) | (refine k_E ?_; first | refine e_seq ?_ | refine e_seq_exit ?_ | refine e_bk_exit ?_ | refine e_lp_exit ?_) | (refine k_load ?_; refine s_ldS rfl rfl om rfl ?_) | (refine k_bin ?_; refine s_lss rfl rfl ?_) | (refine k_idx ?_; refine s_idxS rfl rfl om ?_)))
  · have hk2 : k < s.xs.length := by omega
    refine s_callV0 rfl (hp (nth s.xs k) (nth_mem hk2)) rfl (fun w1 H => ⟨hRd.at hR H, H.rdD inferInstance⟩) ?_
    rintro v L' ⟨rfl, rfl⟩
    (repeat' (first | refine s_move ?_ | refine s_assign ?_ | refine s_nil ?_ | (refine k_C ?_; first | refine s_seq ?_ | refine s_region ?_ | refine s_skip ?_ | refine s_ret ?_ | (refine s_if rfl ?_ ?_ <;> intro hc)) | (refine k_E ?_; first | refine e_seq ?_ | refine e_seq_ret ?_ | refine e_bk_ret ?_ | refine e_bk ?_ | refine e_lp_ret ?_) | (refine k_bin ?_; refine s_add1 rfl rfl om ?_)))
    · refine e_done rfl rfl _ (PSub.take [] rfl) ⟨_, rfl, ⟨fun _ => ?_, fun _ => by omega⟩, rfl⟩
      exact List.any_eq_true.2 ⟨_, nth_mem hk2, hc⟩
    · refine e_lp (k + 1) (by repeat (first | exact trivial | refine ⟨rfl, ?_⟩)) ⟨by omega, ?_⟩ (by show _ - _ < _ - _; omega) (PSub.take [] rfl)
      rw [tk hk2, List.any_append, hno]; simp [hc]
  · refine e_done rfl rfl _ (PSub.take [] rfl) ⟨_, rfl, ⟨fun h => absurd h (by decide), fun h => ?_⟩, rfl⟩
    rw [List.take_of_length_le (by omega)] at hno
    rw [hno] at h; cases h
theorem has_Int_spec (g : FuncId) (cap : List Value) (s : Sl (Int)) (p : Int → Bool) (Rd : FP → World → Prop) (hRd : Lasts Rd) [IsFc Try.prog g] (hp : ∀ x ∈ s.xs, Spec Try.prog g ([.int .i64 x] ++ cap) [] (fun ok w => Rd ok w ∧ RdD ok w x) fun v L' => v = .bool (p x) ∧ L' = []) :
    Spec Try.prog 38 [.slice s.A s.xs.length s.c, .func (.func g) #[] cap.toArray] [] (fun ok w => Rd ok w ∧ RdD ok w s) fun v L' => v = .bool (s.xs.any p) ∧ L' = [] := by
  refine spec_of Try.func38 rfl rfl fun w0 f0 ⟨hR, hs⟩ => ?_
  (repeat' (first | refine s_move ?_ | refine s_assign ?_ | refine s_nil ?_ | (refine k_C ?_; first | refine s_seq ?_ | refine s_region ?_) | (refine k_E ?_; refine e_seq ?_)))
  refine s_call0 (idx_Int_spec g cap s p Rd hRd hp) rfl (fun w1 H => ⟨hRd.at hR H, H.rdD hs⟩) ?_
  rintro v L' ⟨r, rfl, hr, rfl⟩
  (repeat' (first | refine s_assign ?_ | refine s_nil ?_ | (refine k_C ?_; refine s_ret ?_) | (refine k_E ?_; refine e_seq ?_) | (refine k_bin ?_; refine s_geq rfl rfl ?_)))
  refine e_done rfl rfl _ (PSub.take [] rfl) ⟨?_, rfl⟩
  show Value.bool (decide (0 ≤ r)) = _
  congr 1
  rw [Bool.eq_iff_iff, ← hr]; simp

section
open Go Go.RowKit

def rightB (p : SsaProg) (i : SsaIns) : Bool :=
  if (shapeB i.fOp).1 = -2 then false else if 0 ≤ (shapeB i.fOp).1 ∧ ¬ (i.fArgs.xs.length : Int) = (shapeB i.fOp).1 then false else if ¬ (shapeB i.fOp).2 = decide (0 < i.fDst) then false else if i.fDst < 0 then false
  else if i.fOp = 2 then decide (1 ≤ i.fBin ∧ i.fBin ≤ 15)
  else if i.fOp = 3 ∨ i.fOp = 4 then decide (0 ≤ i.fArr ∧ i.fArr < p.fArrays.xs.length ∧ (nth p.fArrays.xs i.fArr.toNat).fSize = 0)
  else if i.fOp = 5 ∨ i.fOp = 6 then decide (0 ≤ i.fArr ∧ i.fArr < p.fArrays.xs.length ∧ 0 < (nth p.fArrays.xs i.fArr.toNat).fSize)
  else if i.fOp = 7 then decide (0 ≤ i.fFn ∧ i.fFn < p.fFuncs.xs.length ∧ 0 < (nth p.fFuncs.xs i.fFn.toNat).fBlocks.xs.length ∧ i.fArgs.xs.length = (nth (nth p.fFuncs.xs i.fFn.toNat).fBlocks.xs 0).fParams.xs.length)
  else true
set_option maxHeartbeats 2000000 in
theorem right_spec (p : SsaProg) (i : SsaIns) : Spec Try.prog 23 [.agg (Enc.enc p).toArray, .agg (Enc.enc i).toArray] [] (fun ok w => RdD ok w p ∧ RdD ok w i) fun v L' => v = .bool (rightB p i) ∧ L' = [] := by
  refine spec_of Try.func23 rfl rfl fun w0 f0 ⟨hp, hi⟩ => ?_
  (repeat' (first | refine s_assign ?_ | refine s_nil ?_ | (refine k_C ?_; first | refine s_seq ?_ | refine s_region ?_) | (refine k_E ?_; refine e_seq ?_) | (refine k_load ?_; refine s_ldB rfl rfl ?_) | (refine k_fld ?_; refine s_fldB rfl ?_) | (refine s_box _ rfl ?_; intro b)))
  refine s_call0 (shape_spec i.fOp) rfl (fun _ _ => trivial) ?_
  rintro v L' ⟨rfl, rfl⟩
  generalize hsh : shapeB i.fOp = sh
  obtain ⟨sn, sb⟩ := sh
  (repeat' (first | refine s_move ?_ | refine s_assign ?_ | refine s_nil ?_ | (refine k_C ?_; first | refine s_seq ?_ | refine s_region ?_ | refine s_stillP foI rfl (by kernel_rfl) ?_ | refine s_skip ?_ | refine s_block ?_ | refine s_ret ?_ | refine s_ift rfl ?_ | (refine s_ifd rfl ?_ ?_ <;> intro hc <;> try (exfalso; omega))) | (refine k_E ?_; first | refine e_seq ?_ | refine e_seq_ret ?_ | refine e_bk_ret ?_ | refine e_bk ?_) | (refine k_load ?_; first | refine s_ldB rfl rfl ?_ | refine s_ldS rfl rfl om rfl ?_ | refine s_ldSF rfl rfl om rfl ?_) | (refine k_bin ?_; first | refine s_lss rfl rfl ?_ | refine s_eql rfl rfl ?_ | refine s_neq rfl rfl ?_ | refine s_gtr rfl rfl ?_ | refine s_geq rfl rfl ?_ | refine s_bne rfl rfl ?_) | (refine k_fld ?_; first | refine s_fld rfl ?_ | refine s_fldB rfl ?_) | (refine k_idx ?_; first | refine s_idxS rfl rfl om ?_ | refine s_idxSI rfl rfl om om ?_) | (refine k_call ?_; refine s_len rfl ?_) | (refine k_guard ?_; first | refine s_on rfl rfl ?_ | refine s_off rfl rfl rfl rfl ?_ | refine s_offU rfl rfl rfl rfl ?_ | (refine s_casesd rfl rfl ?_ ?_ <;> intro hc <;> try (exfalso; omega)) | (refine s_casesn rfl rfl ?_ ?_ <;> intro hc <;> try (exfalso; omega))) | refine s_pick rfl ?_ | refine s_extract rfl rfl ?_))
  all_goals first
    | (refine s_call0 (known_op_spec i.fBin) rfl (fun _ _ => trivial) ?_
       rintro v L' ⟨rfl, rfl⟩
       (repeat' (first | refine s_assign ?_ | refine s_nil ?_ | (refine k_C ?_; refine s_ret ?_) | (refine k_E ?_; first | refine e_seq ?_ | refine e_seq_ret ?_ | refine e_bk_ret ?_)))
       refine e_done rfl rfl _ (PSub.take [] rfl) ⟨?_, rfl⟩
       show Value.bool _ = Value.bool _
       congr 1
       simp_all [rightB] <;> intros <;> first | omega | (rw [Bool.eq_iff_iff]; simp only [Bool.and_eq_true, Bool.or_eq_true, Bool.not_eq_true', decide_eq_true_eq, decide_eq_false_iff_not]; omega))
    | (refine e_done rfl rfl _ (PSub.take [] rfl) ⟨?_, rfl⟩
       show Value.bool _ = Value.bool _
       congr 1
       simp_all [rightB] <;> intros <;> first | omega | (rw [Bool.eq_iff_iff]; simp only [Bool.and_eq_true, Bool.or_eq_true, Bool.not_eq_true', decide_eq_true_eq, decide_eq_false_iff_not]; omega))

theorem check1_spec (p : SsaProg) (i : SsaIns) (b : Nat) : Spec Try.prog 22 ([.agg (Enc.enc i).toArray] ++ [.pointer (some ⟨b, 0, none⟩)]) [] (fun ok w => (RdB ok w b p ∧ RdD ok w p) ∧ RdD ok w i) fun v L' => v = .bool (!rightB p i) ∧ L' = [] := by
  refine spec_of Try.func22 rfl rfl fun w0 f0 ⟨⟨hb, hp⟩, hi⟩ => ?_
  (repeat' (first | refine s_assign ?_ | refine s_nil ?_ | (refine k_C ?_; first | refine s_seq ?_ | refine s_region ?_) | (refine k_E ?_; refine e_seq ?_) | (refine k_load ?_; first | refine s_ldBW rfl rfl ?_ | refine s_ldRBA rfl (by decide) ?_) | (refine s_box _ rfl ?_; intro b)))
  refine s_call0 (right_spec p i) rfl (fun w1 H => ⟨H.rdD hp, H.rdD hi⟩) ?_
  rintro v L' ⟨rfl, rfl⟩
  (repeat' (first | refine s_assign ?_ | refine s_nil ?_ | (refine k_C ?_; refine s_ret ?_) | (refine k_E ?_; refine e_seq ?_) | refine s_not rfl ?_))
  exact e_done rfl rfl _ (PSub.take [] rfl) ⟨rfl, rfl⟩
end
section
open Go Go.RowKit

noncomputable abbrev EB : EK Try.prog 4 Bool := ekBool U_4
def setF (l : List Int) : Int → Option Bool := fun k => if k ∈ l then some true else none
theorem setF_nil : (fun _ => none) = setF [] := by funext k; simp [setF]
theorem setF_put (l : List Int) (k : Int) : upd (setF l) k (some true) = setF (l ++ [k]) := by
  funext j
  unfold upd setF
  by_cases h : j = k
  · simp [h]
  · simp [h]
theorem setF_get (l : List Int) (k : Int) : (setF l k).getD false = decide (k ∈ l) := by unfold setF; split <;> simp [*]
theorem setF_congr {l l' : List Int} (h : ∀ k, k ∈ l ↔ k ∈ l') : setF l = setF l' := by funext k; unfold setF; simp only [h k]
theorem take_nth {α : Type} [Enc α] {xs : List α} {i : Nat} (h : i < xs.length) : xs.take i ++ [nth xs i] = xs.take (i + 1) := by rw [nth_get h, List.take_append_getElem]
def dstsB7 (is : List SsaIns) : List Int := (is.map (·.fDst)).filter (· ≠ 0)
theorem dstsB7_app (a b : List SsaIns) : dstsB7 (a ++ b) = dstsB7 a ++ dstsB7 b := by simp [dstsB7]
theorem dstsB7_one {is : List SsaIns} {i : Nat} (h : i < is.length) (h0 : ¬ (nth is i).fDst = 0) : dstsB7 (is.take i) ++ [(nth is i).fDst] = dstsB7 (is.take (i + 1)) := by rw [← take_nth h, dstsB7_app]; simp [dstsB7, h0]
theorem dstsB7_none {is : List SsaIns} {i : Nat} (h : i < is.length) (h0 : (nth is i).fDst = 0) : dstsB7 (is.take i) = dstsB7 (is.take (i + 1)) := by rw [← take_nth h, dstsB7_app]; simp [dstsB7, h0]
def madeB (b : SsaBlock) : List Int := b.fParams.xs ++ dstsB7 b.fIns.xs
/-- A set that is only read. -/
def RdSet (v : Option Nat) (N : Nat) (l : List Int) : FP → World → Prop := fun ok w => RdM EB 3 ok w v N (setF l)
theorem RdSet.lasts (v : Option Nat) (N : Nat) (l : List Int) : Lasts (RdSet v N l) := fun _ _ _ _ h hk => h.loc hk

/-- Gone over so far. -/
def doneF (l : List Int) (todo : Int → Bool) : Int → Option Bool := fun k => if k ∈ l ∧ todo k = false then some true else none
theorem doneF_start (l : List Int) : (fun _ => none) = doneF l fun k => (setF l k).isSome := by
  funext k; unfold doneF setF
  by_cases h : k ∈ l <;> simp [h]
theorem doneF_step {l : List Int} {todo : Int → Bool} {k : Int} {x : Bool} (hF : setF l k = some x) : upd (doneF l todo) k (some true) = doneF l fun j => todo j && j != k := by
  have hk : k ∈ l := by
    unfold setF at hF
    split at hF
    · assumption
    · cases hF
  funext j
  unfold upd doneF
  by_cases h : j = k
  · subst h; simp [hk]
  · simp [h]
theorem doneF_end {l : List Int} {todo : Int → Bool} (h : ∀ k, setF l k ≠ none → todo k = false) : doneF l todo = setF l := by
  funext k
  unfold doneF setF
  by_cases hk : k ∈ l
  · have := h k (by unfold setF; simp [hk])
    simp [hk, this]
  · simp [hk]

set_option maxHeartbeats 1000000 in
theorem after_spec (v : Option Nat) (N : Nat) (l : List Int) (b : SsaBlock) (hN : N ≤ 100000000) (h1 : b.fParams.xs.length ≤ 100000) (h2 : b.fIns.xs.length ≤ 100000) :
    Spec Try.prog 35 [.map v, .agg (Enc.enc b).toArray] [] (fun ok w => RdSet v N l ok w ∧ RdD ok w b) fun r L' => ∃ q N', r = .map (some q) ∧ N' ≤ N + b.fParams.xs.length + b.fIns.xs.length ∧ L' = [mp EB 3 q N' (setF (l ++ madeB b))] := by
  refine spec_of Try.func35 rfl rfl fun w0 f0 ⟨hm, hb⟩ => ?_
  haveI : RdMp EB 3 (okOf w0 f0) w0 v N (setF l) := ⟨hm⟩
  (repeat' (first | refine s_move ?_ | refine s_assign ?_ | refine s_nil ?_ | (refine k_C ?_; first | refine s_seq ?_ | refine s_region ?_) | (refine k_E ?_; refine e_seq ?_) | (refine s_box _ rfl ?_; intro b) | (refine s_mkmapB ?_; intro b)))
  rename_i b3
  obtain ⟨b5, rfl⟩ : ∃ q, q = b := ⟨_, rfl⟩
  refine s_rangeS rfl ?_
  intro es clock cnt r hcnt hM
  (repeat' (first | refine s_nil ?_ | (refine k_C ?_; refine s_block ?_) | (refine k_E ?_; refine e_seq ?_)))
  refine s_loop (σ := (Int → Bool) × Nat × Nat) (fun s => [(3, .pointer (some ⟨b3, 0, none⟩)), (5, .map (some b5)), (13, .pointer (some ⟨r, 0, none⟩))])
    (fun s => [itr Try.prog 3 4 v r es clock s.1 s.2.1, mp EB 3 b5 s.2.2 (doneF l s.1), var 60 b3 b]) (fun s => s.2.2 + s.2.1 ≤ N) (fun s => s.2.1) ((fun k => (setF l k).isSome), cnt, 0) (by repeat (first | exact trivial | refine ⟨rfl, ?_⟩)) (by simpa using hcnt) (PSub.eq ?_) ?_
  · simp only [← doneF_start]
  rintro f ⟨todo, c1, n1⟩ hJ
  dsimp only at hJ
  (repeat' (first | (refine k_C ?_; first | refine s_seq ?_ | refine s_region ?_)))
  refine s_nextS U_3 hM rfl (fun hf => ?_) (fun k x cnt' hk hg ht hF hlt => ?_)
  · dsimp only
    (repeat' (first | refine s_move ?_ | refine s_nil ?_ | (refine k_C ?_; first | refine s_seq ?_ | refine s_region ?_ | refine s_block ?_ | refine s_exit ?_ | refine s_iff rfl ?_) | (refine k_E ?_; first | refine e_seq ?_ | refine e_seq_exit ?_ | refine e_bk_exit ?_ | refine e_lp_exit ?_) | (refine k_load ?_; refine s_ldB rfl rfl ?_) | (refine k_fld ?_; refine s_fldB rfl ?_) | (refine k_call ?_; refine s_len rfl ?_) | refine s_extract rfl rfl ?_))
    rw [doneF_end hf]
    refine s_loop (σ := Nat) (fun i => [(3, .pointer (some ⟨b3, 0, none⟩)), (5, .map (some b5)), (21, .slice b.fParams.A b.fParams.xs.length b.fParams.c), (22, .int .i64 b.fParams.xs.length), (23, .int .i64 i)])
      (fun i => [mp EB 3 b5 (n1 + i) (setF (l ++ b.fParams.xs.take i)), var 60 b3 b]) (fun i => i ≤ b.fParams.xs.length) (fun i => b.fParams.xs.length - i) 0 (by repeat (first | exact trivial | refine ⟨rfl, ?_⟩)) (Nat.zero_le _) (PSub.eq (by simp)) ?_
    intro f i hi
    (repeat' (first | refine s_move ?_ | refine s_assign ?_ | refine s_nil ?_ | (refine k_C ?_; first | refine s_seq ?_ | refine s_region ?_ | refine s_skip ?_ | refine s_block ?_ | refine s_exit ?_ | (refine s_ifd rfl ?_ ?_ <;> intro hc <;> try (exfalso; omega))) | (refine k_E ?_; first | refine e_seq ?_ | refine e_seq_exit ?_ | refine e_bk_exit ?_ | refine e_bk ?_ | refine e_lp_exit ?_) | (refine k_load ?_; first | refine s_ldB rfl rfl ?_ | refine s_ldS rfl rfl om rfl ?_) | (refine k_bin ?_; first | refine s_lss rfl rfl ?_ | refine s_add1 rfl rfl om ?_) | (refine k_fld ?_; refine s_fldB rfl ?_) | (refine k_idx ?_; refine s_idxS rfl rfl om ?_) | (refine k_call ?_; refine s_len rfl ?_) | refine s_putW (yv := true) rfl rfl rfl trivial om ?_))
    · refine e_lp (i + 1) (by repeat (first | exact trivial | refine ⟨rfl, ?_⟩)) (by omega) (by show _ - _ < _ - _; omega) (PSub.eq ?_)
      rw [setF_put, List.append_assoc, take_nth (by omega)]; rfl
    · have hi' : i = b.fParams.xs.length := by omega
      subst hi'
      rw [List.take_length]
      refine s_loop (σ := Nat × Nat) (fun s => [(3, .pointer (some ⟨b3, 0, none⟩)), (5, .map (some b5)), (31, .slice b.fIns.A b.fIns.xs.length b.fIns.c), (32, .int .i64 b.fIns.xs.length), (33, .int .i64 s.1)])
        (fun s => [mp EB 3 b5 s.2 (setF (l ++ b.fParams.xs ++ dstsB7 (b.fIns.xs.take s.1)))]) (fun s => s.1 ≤ b.fIns.xs.length ∧ s.2 ≤ n1 + b.fParams.xs.length + s.1) (fun s => b.fIns.xs.length - s.1) (0, n1 + b.fParams.xs.length) (by repeat (first | exact trivial | refine ⟨rfl, ?_⟩)) ⟨Nat.zero_le _, Nat.le_refl _⟩ (PSub.take [0] (by simp [pickL, dstsB7])) ?_
      rintro f ⟨i, m⟩ ⟨hi, hm'⟩
      dsimp only at hi hm'
      (repeat' (first | refine s_move ?_ | refine s_assign ?_ | refine s_nil ?_ | (refine k_C ?_; first | refine s_seq ?_ | refine s_region ?_ | refine s_skip ?_ | refine s_block ?_ | refine s_exit ?_ | refine s_ret ?_ | (refine s_ifd rfl ?_ ?_ <;> intro hc <;> try (exfalso; omega)) | (refine s_ifn rfl ?_ ?_ <;> intro hc <;> try (exfalso; omega))) | (refine k_E ?_; first | refine e_seq ?_ | refine e_seq_exit ?_ | refine e_bk_exit ?_ | refine e_bk ?_ | refine e_lp_exit ?_) | (refine k_load ?_; first | refine s_ldB rfl rfl ?_ | refine s_ldSA rfl rfl om rfl ?_) | (refine k_bin ?_; first | refine s_lss rfl rfl ?_ | refine s_add1 rfl rfl om ?_ | refine s_neq rfl rfl ?_) | (refine k_fld ?_; refine s_fldB rfl ?_) | (refine k_idx ?_; refine s_idxS rfl rfl om ?_) | (refine k_store ?_; refine s_stW _ rfl rfl ?_) | refine s_putW (yv := true) rfl rfl rfl trivial om ?_ | (refine s_alloc ?_; intro b)))
      · refine e_lp (i + 1, m + 1) (by repeat (first | exact trivial | refine ⟨rfl, ?_⟩)) ⟨by show i + 1 ≤ _; omega, by show m + 1 ≤ _ + (i + 1); omega⟩ (by show _ - _ < _ - _; omega) (PSub.take [1] ?_)
        show [_] = [_]
        rw [setF_put, List.append_assoc, dstsB7_one (by omega) hc]
      · refine e_lp (i + 1, m) (by repeat (first | exact trivial | refine ⟨rfl, ?_⟩)) ⟨by show i + 1 ≤ _; omega, by show m ≤ _ + (i + 1); omega⟩ (by show _ - _ < _ - _; omega) (PSub.take [1] ?_)
        show [_] = [_]
        rw [← dstsB7_none (i := i) (by omega) hc]
      · refine e_done rfl rfl _ (PSub.take [0] rfl) ⟨b5, m, rfl, by omega, ?_⟩
        have hi' : i = b.fIns.xs.length := by omega
        subst hi'
        rw [List.take_length, List.append_assoc]; rfl
  · haveI : RdD (okOf w0 f0) w0 k := ⟨hk⟩
    dsimp only at hlt ⊢
    (repeat' (first | refine s_nil ?_ | (refine k_C ?_; first | refine s_seq ?_ | refine s_region ?_ | refine s_skip ?_ | refine s_block ?_ | refine s_ift rfl ?_) | (refine k_E ?_; refine e_seq ?_) | refine s_extract rfl rfl ?_))
    refine s_entryS hM rfl ?_
    (repeat' (first | refine s_move ?_ | refine s_assign ?_ | refine s_nil ?_ | (refine k_C ?_; refine s_region ?_) | (refine k_E ?_; first | refine e_seq ?_ | refine e_bk ?_) | refine s_putW (yv := true) rfl rfl rfl trivial om ?_ | refine s_extract rfl rfl ?_))
    refine e_lp (fun j => todo j && j != k, cnt', n1 + 1) (by repeat (first | exact trivial | refine ⟨rfl, ?_⟩)) (by show n1 + 1 + cnt' ≤ N; omega) hlt (PSub.eq ?_)
    rw [doneF_step hF]
end
section
open Go Go.RowKit

theorem run_mnil' {P : Program} {w : World} (fuel : Nat) {t kt e : TypeId} {p : Option Nat} (ht : P.underlying t = some (.map kt e)) : (Op.equalIn (fuel + 1) t (.map p) (.map none)).run P w = .ok p.isNone w := by
  cases p <;> simp [Op.equalIn, run_underlying ht]
section
variable {P : Program} {n : Nat} {w0 : World} {f0 : FP} {ops : Array Oper} {m : Bool} {rest : List Oper} {QC : Exit → Fr → World → Prop} {f : Fr} {L : List HP} {x y : Operand}
variable {d : Tmp} {ty t yt kt e : TypeId} {pos : String} {after : Array Edge}
theorem s_mnil [h : MpT P t kt e] {p : Option Nat} (hx : ev f x = .map p) (hy : ev f y = .map none) (hn : sO P n w0 f0 ops m rest QC (up f d (.bool p.isNone)) L) (hd : Nat.blt d n = true := by rfl) :
    sO P n w0 f0 ops m (⟨some d, .binOp .eql t x y yt, ty, pos, after, none⟩ :: rest) QC f L := by
  intro w H
  refine o_pure (v := .bool p.isNone) rfl hd ?_ (hn w H)
  show (Sem.run P (do pure (Next.value (← (do eqGuard .eql t x y (ev f x) (ev f y); binOp .eql t (ev f x) (ev f y))))) w) = _
  rw [hx, hy]
  have he : (Op.equal t (.map p) (.map none)).run P w = .ok p.isNone w := run_mnil' 9999 h.u
  simp [eqGuard, binOp, he, Result.andThen]
end

theorem meet_nil (A : Option Addr) (c : Nat) (ids : List Mr) (n : Nat) (q : Nat) (hn : n < ids.length) (hl : ids.length < 1000000) (h0 : nth ids n = ⟨none⟩) :
    Spec Try.prog 36 [.slice A ids.length c, .int .i64 n, .map (some q)] [own 81 A ids.length c ids] (fun _ _ => True) fun v L' => v = .bool true ∧ L' = [own 81 A ids.length c (ids.set n ⟨some q⟩)] := by
  refine spec_of Try.func36 rfl rfl fun w0 f0 _ => ?_
  (repeat' (first | refine s_move ?_ | refine s_assign ?_ | refine s_nil ?_ | (refine k_C ?_; first | refine s_seq ?_ | refine s_region ?_) | (refine k_E ?_; refine e_seq ?_) | (refine k_load ?_; refine s_ld rfl om rfl ?_) | (refine k_idx ?_; refine s_idx rfl rfl om ?_)))
  refine s_mnil rfl rfl ?_
  rw [h0]
  (repeat' (first | refine s_move ?_ | refine s_assign ?_ | refine s_nil ?_ | (refine k_C ?_; first | refine s_seq ?_ | refine s_region ?_ | refine s_ret ?_ | refine s_ift rfl ?_) | (refine k_E ?_; first | refine e_seq ?_ | refine e_seq_ret ?_) | (refine k_idx ?_; refine s_idx rfl rfl om ?_) | (refine k_store ?_; refine s_st _ rfl rfl om ?_)))
  exact e_done rfl rfl _ (PSub.take [0] rfl) ⟨rfl, rfl⟩

/-- What is left of l', l being what is made on the way. -/
def meetB (l' l : List Int) : List Int := l'.filter (· ∈ l)
set_option maxHeartbeats 1000000 in
theorem meet_other (A : Option Addr) (c : Nat) (ids : List Mr) (n : Nat) (q q' N N' : Nat) (l l' : List Int) (hn : n < ids.length) (hl : ids.length < 1000000) (h0 : nth ids n = ⟨some q'⟩) (hq : q' ≠ q) :
    Spec Try.prog 36 [.slice A ids.length c, .int .i64 n, .map (some q)] [own 81 A ids.length c ids, mp EB 3 q' N' (setF l'), mp EB 3 q N (setF l)] (fun _ _ => True)
      fun v L' => v = .bool (decide (∃ k ∈ l', k ∉ l)) ∧ L' = [own 81 A ids.length c ids, mp EB 3 q' N' (setF (meetB l' l)), mp EB 3 q N (setF l)] := by
  refine spec_of Try.func36 rfl rfl fun w0 f0 _ => ?_
  (repeat' (first | refine s_move ?_ | refine s_assign ?_ | refine s_nil ?_ | (refine k_C ?_; first | refine s_seq ?_ | refine s_region ?_) | (refine k_E ?_; refine e_seq ?_) | (refine k_load ?_; refine s_ld rfl om rfl ?_) | (refine k_idx ?_; refine s_idx rfl rfl om ?_)))
  refine s_mnil rfl rfl ?_
  rw [h0]
  (repeat' (first | refine s_move ?_ | refine s_assign ?_ | refine s_nil ?_ | (refine k_C ?_; first | refine s_seq ?_ | refine s_region ?_ | refine s_skip ?_ | refine s_iff rfl ?_) | (refine k_E ?_; refine e_seq ?_) | (refine k_load ?_; refine s_ld rfl om rfl ?_) | (refine k_idx ?_; refine s_idx rfl rfl om ?_)))
  have hx0 : Value.map (nth ids n).b = .map (some q') := by rw [h0]
  refine s_rangeD hx0 ?_
  intro cnt0 r
  (repeat' (first | refine s_nil ?_ | (refine k_C ?_; refine s_block ?_) | (refine k_E ?_; refine e_seq ?_)))
  refine s_loop (σ := (Int → Option Bool) × (Int → Bool) × Nat × Bool) (fun s => [(0, .slice A ids.length c), (1, .int .i64 n), (2, .map (some q)), (7, .bool s.2.2.2), (22, .pointer (some ⟨r, 0, none⟩))])
    (fun s => [own 81 A ids.length c ids, rgD EB 3 q' r N' s.1 s.2.1 s.2.2.1, mp EB 3 q N (setF l)])
    (fun s => (∀ k, s.1 k = if k ∈ l' ∧ (s.2.1 k = true ∨ k ∈ l) then some true else none) ∧ (∀ k, s.2.1 k = true → k ∈ l') ∧ (s.2.2.2 = true ↔ ∃ k, k ∈ l' ∧ s.2.1 k = false ∧ k ∉ l)) (fun s => s.2.2.1)
    (setF l', (fun k => (setF l' k).isSome), cnt0, false) (by repeat (first | exact trivial | refine ⟨rfl, ?_⟩)) ⟨fun k => ?_, fun k => ?_, ?_⟩ PSub.refl ?_
  · show setF l' k = _
    by_cases hk : k ∈ l' <;> simp [setF, hk]
  · by_cases hk : k ∈ l' <;> simp [setF, hk]
  · simp [setF]
    intro k h1 h2
    simp [h1] at h2
  rintro f ⟨F, todo, cnt, tu⟩ ⟨j1, j2, j3⟩
  dsimp only at j1 j2 j3 ⊢
  (repeat' (first | (refine k_C ?_; first | refine s_seq ?_ | refine s_region ?_)))
  refine s_nextD U_3 rfl (fun hf => ?_) (fun k x cnt' hk hg ht hF hlt => ?_)
  · have ht : ∀ k, todo k = false := fun k => by
      cases h : todo k with
      | false => rfl
      | true =>
        have := hf k (by rw [j1]; simp [h, j2 k h])
        rw [h] at this; cases this
    (repeat' (first | refine s_move ?_ | refine s_assign ?_ | refine s_nil ?_ | (refine k_C ?_; first | refine s_seq ?_ | refine s_region ?_ | refine s_exit ?_ | refine s_ret ?_ | refine s_iff rfl ?_) | (refine k_E ?_; first | refine e_seq ?_ | refine e_seq_exit ?_ | refine e_bk_exit ?_ | refine e_lp_exit ?_) | refine s_extract rfl rfl ?_))
    refine e_done rfl rfl _ PSub.refl ⟨?_, ?_⟩
    · show Value.bool tu = Value.bool (decide _)
      congr 1
      rw [Bool.eq_iff_iff, j3]
      simp [ht]
    · have : F = setF (meetB l' l) := by
        funext k
        rw [j1]
        simp [ht, setF, meetB]
      rw [this]
  · haveI : RdD (okOf w0 f0) w0 k := ⟨hk⟩
    (repeat' (first | refine s_nil ?_ | (refine k_C ?_; first | refine s_seq ?_ | refine s_region ?_ | refine s_skip ?_ | refine s_block ?_ | refine s_ift rfl ?_) | (refine k_E ?_; refine e_seq ?_) | refine s_extract rfl rfl ?_))
    refine s_entryD rfl ?_
    (repeat' (first | refine s_move ?_ | refine s_assign ?_ | refine s_nil ?_ | (refine k_C ?_; first | refine s_seq ?_ | refine s_region ?_ | refine s_skip ?_ | (refine s_if rfl ?_ ?_ <;> intro hc)) | (refine k_E ?_; first | refine e_seq ?_ | refine e_bk ?_) | (refine k_load ?_; refine s_ld rfl om rfl ?_) | (refine k_idx ?_; refine s_idx rfl rfl om ?_) | refine s_lookW rfl rfl ?_ | refine s_not rfl ?_ | refine s_extract rfl rfl ?_))
    · refine s_delD0 hx0 rfl ?_
      intro cnt2 hcnt2
      (repeat' (first | refine s_assign ?_ | refine s_nil ?_ | (refine k_C ?_; refine s_region ?_) | (refine k_E ?_; first | refine e_seq ?_ | refine e_bk ?_)))
      have hkl : k ∉ l := fun h => by simp [setF, h] at hc
      refine e_lp (upd F k none, fun j => todo j && j != k, cnt2, true) (by repeat (first | exact trivial | refine ⟨rfl, ?_⟩)) ⟨fun j => ?_, fun j hj => ?_, ?_⟩ (Nat.lt_of_le_of_lt hcnt2 hlt) (PSub.eq ?_)
      · show upd F k none j = _
        unfold upd
        by_cases e1 : j = k
        · subst e1; simp [hkl]
        · simp only [e1, if_false]; rw [j1]; simp [e1]
      · exact j2 j (by simp at hj; exact hj.1)
      · simp only [true_iff]
        exact ⟨k, j2 k ht, by simp, hkl⟩
      · simp only [Bool.and_assoc, Bool.and_self]
    · have hkl : k ∈ l := by
        by_cases h : k ∈ l
        · exact h
        · exfalso; simp [setF, h] at hc; cases hc
      refine e_lp (F, fun j => todo j && j != k, cnt', tu) (by repeat (first | exact trivial | refine ⟨rfl, ?_⟩)) ⟨fun j => ?_, fun j hj => ?_, ?_⟩ hlt PSub.refl
      · show F j = _
        rw [j1]
        by_cases e1 : j = k
        · subst e1; simp [hkl]
        · simp [e1]
      · exact j2 j (by simp at hj; exact hj.1)
      · show tu = true ↔ _
        rw [j3]
        constructor
        · rintro ⟨j, h1, h2, h3⟩; exact ⟨j, h1, by simp [h2], h3⟩
        · rintro ⟨j, h1, h2, h3⟩
          refine ⟨j, h1, ?_, h3⟩
          have : j ≠ k := fun e => h3 (e ▸ hkl)
          simpa [this] using h2

theorem meet_same (A : Option Addr) (c : Nat) (ids : List Mr) (n : Nat) (q N : Nat) (l : List Int) (hn : n < ids.length) (hl : ids.length < 1000000) (h0 : nth ids n = ⟨some q⟩) :
    Spec Try.prog 36 [.slice A ids.length c, .int .i64 n, .map (some q)] [own 81 A ids.length c ids, mp EB 3 q N (setF l)] (fun _ _ => True)
      fun v L' => v = .bool false ∧ L' = [own 81 A ids.length c ids, mp EB 3 q N (setF l)] := by
  refine spec_of Try.func36 rfl rfl fun w0 f0 _ => ?_
  (repeat' (first | refine s_move ?_ | refine s_assign ?_ | refine s_nil ?_ | (refine k_C ?_; first | refine s_seq ?_ | refine s_region ?_) | (refine k_E ?_; refine e_seq ?_) | (refine k_load ?_; refine s_ld rfl om rfl ?_) | (refine k_idx ?_; refine s_idx rfl rfl om ?_)))
  refine s_mnil rfl rfl ?_
  rw [h0]
  (repeat' (first | refine s_move ?_ | refine s_assign ?_ | refine s_nil ?_ | (refine k_C ?_; first | refine s_seq ?_ | refine s_region ?_ | refine s_skip ?_ | refine s_iff rfl ?_) | (refine k_E ?_; refine e_seq ?_) | (refine k_load ?_; refine s_ld rfl om rfl ?_) | (refine k_idx ?_; refine s_idx rfl rfl om ?_)))
  have hx0 : Value.map (nth ids n).b = .map (some q) := by rw [h0]
  refine s_rangeD hx0 ?_
  intro cnt0 r
  (repeat' (first | refine s_nil ?_ | (refine k_C ?_; refine s_block ?_) | (refine k_E ?_; refine e_seq ?_)))
  refine s_loop (σ := (Int → Bool) × Nat) (fun s => [(0, .slice A ids.length c), (1, .int .i64 n), (2, .map (some q)), (7, .bool false), (22, .pointer (some ⟨r, 0, none⟩))])
    (fun s => [own 81 A ids.length c ids, rgD EB 3 q r N (setF l) s.1 s.2]) (fun s => True) (fun s => s.2)
    ((fun k => (setF l k).isSome), cnt0) (by repeat (first | exact trivial | refine ⟨rfl, ?_⟩)) trivial PSub.refl ?_
  rintro f ⟨todo, cnt⟩ _
  dsimp only
  (repeat' (first | (refine k_C ?_; first | refine s_seq ?_ | refine s_region ?_)))
  refine s_nextD U_3 rfl (fun hf => ?_) (fun k x cnt' hk hg ht hF hlt => ?_)
  · (repeat' (first | refine s_move ?_ | refine s_assign ?_ | refine s_nil ?_ | (refine k_C ?_; first | refine s_seq ?_ | refine s_region ?_ | refine s_exit ?_ | refine s_ret ?_ | refine s_iff rfl ?_) | (refine k_E ?_; first | refine e_seq ?_ | refine e_seq_exit ?_ | refine e_bk_exit ?_ | refine e_lp_exit ?_) | refine s_extract rfl rfl ?_))
    exact e_done rfl rfl _ PSub.refl ⟨rfl, rfl⟩
  · haveI : RdD (okOf w0 f0) w0 k := ⟨hk⟩
    (repeat' (first | refine s_nil ?_ | (refine k_C ?_; first | refine s_seq ?_ | refine s_region ?_ | refine s_skip ?_ | refine s_block ?_ | refine s_ift rfl ?_) | (refine k_E ?_; refine e_seq ?_) | refine s_extract rfl rfl ?_))
    refine s_entryD rfl ?_
    (repeat' (first | refine s_move ?_ | refine s_assign ?_ | refine s_nil ?_ | (refine k_C ?_; first | refine s_seq ?_ | refine s_region ?_) | (refine k_E ?_; refine e_seq ?_) | refine s_extract rfl rfl ?_))
    refine s_lookD rfl rfl ?_
    have hk1 : setF l k = some true := by
      unfold setF at hF ⊢
      split at hF <;> first | cases hF | skip
      simp [*]
    rw [hk1]
    (repeat' (first | refine s_nil ?_ | (refine k_C ?_; first | refine s_skip ?_ | refine s_iff rfl ?_) | (refine k_E ?_; first | refine e_seq ?_ | refine e_bk ?_) | refine s_not rfl ?_))
    exact e_lp (fun j => todo j && j != k, cnt') (by repeat (first | exact trivial | refine ⟨rfl, ?_⟩)) trivial hlt PSub.refl

section
variable {w0 : World} {f0 : FP} {L1 L2 : List HP} {put : HP → List HP} {P : Program} {e kt : TypeId} {α : Type} {E : EK P e α} {N : Nat} {F : Int → Option α}
theorem Ctx.map {w1 : World} {f1 : FP} (h : Ctx w0 f0 L1 L2 w1 f1) (b : Nat) [hp : PcM L2 b (mp E kt b N F) put] : RdM E kt (okOf w1 f1) w1 (some b) N F := by
  obtain ⟨i, hi, _⟩ := hp.at_
  obtain ⟨g, hg, hok⟩ := h.piece hi
  exact .inr ⟨b, rfl, hok b ((hg.1 b).2 rfl), hg.2⟩
end

/-- What is known: the set in a cell. -/
def RdNow (t b N : Nat) (l : List Int) : FP → World → Prop := fun ok w => RdB ok w t (Mr.mk (some b)) ∧ RdSet (some b) N l ok w
theorem RdNow.lasts (t b N : Nat) (l : List Int) : Lasts (RdNow t b N l) := (Lasts.b t _).and (RdSet.lasts _ _ _)

theorem used11_spec (t b N : Nat) (l : List Int) (k : Int) : Spec Try.prog 39 ([.int .i64 k] ++ [.pointer (some ⟨t, 0, none⟩)]) [] (fun ok w => RdNow t b N l ok w ∧ RdD ok w k) fun v L' => v = .bool (!decide (k ∈ l)) ∧ L' = [] := by
  refine spec_of Try.func39 rfl rfl fun w0 f0 ⟨⟨hb, hm⟩, hk⟩ => ?_
  haveI : RdMp EB 3 (okOf w0 f0) w0 (some b) N (setF l) := ⟨hm⟩
  (repeat' (first | refine s_move ?_ | refine s_assign ?_ | refine s_nil ?_ | (refine k_C ?_; first | refine s_seq ?_ | refine s_region ?_ | refine s_ret ?_) | (refine k_E ?_; refine e_seq ?_) | (refine k_load ?_; refine s_ldRB rfl rfl ?_) | refine s_lookSW rfl rfl ?_ | refine s_not rfl ?_))
  refine e_done rfl rfl _ (PSub.take [] rfl) ⟨?_, rfl⟩
  show Value.bool (!(setF l k).getD false) = _
  rw [setF_get]
theorem used1_spec (t b N : Nat) (l : List Int) (s : Sl Int) : Spec Try.prog 37 ([.slice s.A s.xs.length s.c] ++ [.pointer (some ⟨t, 0, none⟩)]) [] (fun ok w => RdNow t b N l ok w ∧ RdD ok w s) fun v L' => v = .bool (s.xs.all (· ∈ l)) ∧ L' = [] := by
  refine spec_of Try.func37 rfl rfl fun w0 f0 ⟨hN, hs⟩ => ?_
  (repeat' (first | refine s_move ?_ | refine s_assign ?_ | refine s_nil ?_ | (refine k_C ?_; first | refine s_seq ?_ | refine s_region ?_) | (refine k_E ?_; refine e_seq ?_) | refine s_func (v1 := []) (v2 := [.pointer _]) rfl rfl ?_))
  refine s_call0 (has_Int_spec _ [.pointer (some ⟨t, 0, none⟩)] s (fun x => !decide (x ∈ l)) (RdNow t b N l) (RdNow.lasts t b N l) (fun x _ => used11_spec t b N l x)) rfl (fun w1 H => ⟨(RdNow.lasts t b N l).at hN H, H.rdD hs⟩) ?_
  rintro v L' ⟨rfl, rfl⟩
  (repeat' (first | refine s_assign ?_ | refine s_nil ?_ | (refine k_C ?_; refine s_ret ?_) | (refine k_E ?_; refine e_seq ?_) | refine s_not rfl ?_))
  refine e_done rfl rfl _ (PSub.take [] rfl) ⟨?_, rfl⟩
  show Value.bool (!s.xs.any fun x => !decide (x ∈ l)) = _
  rw [List.not_any_eq_all_not]; simp

/-- What a block uses is known. -/
def usesI (l : List Int) : List SsaIns → Bool
  | [] => true
  | i :: is => i.fArgs.xs.all (· ∈ l) && usesI (if i.fDst = 0 then l else l ++ [i.fDst]) is
def usedB (l : List Int) (b : SsaBlock) : Bool :=
  usesI (l ++ b.fParams.xs) b.fIns.xs && b.fEnd.fWays.xs.all (fun w => w.fArgs.xs.all (· ∈ l ++ madeB b)) && (decide (b.fEnd.fVal = 0) || decide (b.fEnd.fVal ∈ l ++ madeB b))
theorem usesI_at {l : List Int} {is : List SsaIns} {i : Nat} (h : i < is.length) (h0 : ¬ (nth is i).fArgs.xs.all (· ∈ l ++ dstsB7 (is.take i)) = true) : usesI l is = false := by
  induction is generalizing l i with
  | nil => cases h
  | cons a is ih =>
    unfold usesI
    cases i with
    | zero =>
      have : (nth (a :: is) 0) = a := rfl
      rw [this] at h0
      simp only [List.take_zero, dstsB7, List.map_nil, List.filter_nil, List.append_nil] at h0
      simp only [Bool.and_eq_false_iff]
      exact .inl (by simpa using h0)
    | succ i =>
      have e1 : (nth (a :: is) (i + 1)) = nth is i := rfl
      rw [e1, List.take_succ_cons, show a :: is.take i = [a] ++ is.take i from rfl, dstsB7_app, ← List.append_assoc] at h0
      simp only [Bool.and_eq_false_iff]
      refine .inr (ih (by simpa using h) ?_)
      by_cases hd : a.fDst = 0
      · simpa [dstsB7, hd] using h0
      · simpa [dstsB7, hd] using h0
theorem usesI_all {l : List Int} {is : List SsaIns} (h : ∀ i, i < is.length → (nth is i).fArgs.xs.all (· ∈ l ++ dstsB7 (is.take i)) = true) : usesI l is = true := by
  induction is generalizing l with
  | nil => rfl
  | cons a is ih =>
    unfold usesI
    simp only [Bool.and_eq_true]
    constructor
    · have := h 0 (by simp)
      simpa [dstsB7, show nth (a :: is) 0 = a from rfl] using this
    · refine ih fun i hi => ?_
      have := h (i + 1) (by simpa using hi)
      have e1 : (nth (a :: is) (i + 1)) = nth is i := rfl
      rw [e1, List.take_succ_cons, show a :: is.take i = [a] ++ is.take i from rfl, dstsB7_app, ← List.append_assoc] at this
      by_cases hd : a.fDst = 0
      · simpa [dstsB7, hd] using this
      · simpa [dstsB7, hd] using this
set_option maxHeartbeats 2000000 in
theorem used_spec (v : Option Nat) (N : Nat) (l : List Int) (bl : SsaBlock) (hN : N ≤ 100000000) (h1 : bl.fParams.xs.length ≤ 100000) (h2 : bl.fIns.xs.length ≤ 100000) (h3 : bl.fEnd.fWays.xs.length ≤ 100000) :
    Spec Try.prog 25 [.map v, .agg (Enc.enc bl).toArray] [] (fun ok w => RdSet v N l ok w ∧ RdD ok w bl) fun r L' => r = .bool (usedB l bl) ∧ L' = [] := by
  refine spec_of Try.func25 rfl rfl fun w0 f0 ⟨hm, hb⟩ => ?_
  haveI : RdMp EB 3 (okOf w0 f0) w0 v N (setF l) := ⟨hm⟩
  (repeat' (first | refine s_move ?_ | refine s_assign ?_ | refine s_nil ?_ | (refine k_C ?_; first | refine s_seq ?_ | refine s_region ?_) | (refine k_E ?_; refine e_seq ?_) | (refine k_store ?_; refine s_stW _ rfl rfl ?_) | (refine s_alloc ?_; intro b) | (refine s_box _ rfl ?_; intro b) | (refine s_mkmapB ?_; intro b)))
  rename_i b3 m
  obtain ⟨t, rfl⟩ : ∃ q, q = b := ⟨_, rfl⟩
  refine s_rangeS rfl ?_
  intro es clock cnt r hcnt hM
  (repeat' (first | refine s_nil ?_ | (refine k_C ?_; refine s_block ?_) | (refine k_E ?_; refine e_seq ?_)))
  refine s_loop (σ := (Int → Bool) × Nat × Nat) (fun s => [(3, .pointer (some ⟨b3, 0, none⟩)), (5, .pointer (some ⟨t, 0, none⟩)), (16, .pointer (some ⟨r, 0, none⟩))])
    (fun s => [itr Try.prog 3 4 v r es clock s.1 s.2.1, var 81 t (Mr.mk (some m)), mp EB 3 m s.2.2 (doneF l s.1), var 60 b3 bl]) (fun s => s.2.2 + s.2.1 ≤ N) (fun s => s.2.1) ((fun k => (setF l k).isSome), cnt, 0) (by repeat (first | exact trivial | refine ⟨rfl, ?_⟩)) (by simpa using hcnt) (PSub.eq ?_) ?_
  · simp only [← doneF_start]
  rintro f ⟨todo, c1, n1⟩ hJ
  dsimp only at hJ
  (repeat' (first | (refine k_C ?_; first | refine s_seq ?_ | refine s_region ?_)))
  refine s_nextS U_3 hM rfl (fun hf => ?_) (fun k x cnt' hk hg ht hF hlt => ?_)
  · dsimp only
    (repeat' (first | refine s_move ?_ | refine s_nil ?_ | (refine k_C ?_; first | refine s_seq ?_ | refine s_region ?_ | refine s_block ?_ | refine s_exit ?_ | refine s_iff rfl ?_) | (refine k_E ?_; first | refine e_seq ?_ | refine e_seq_exit ?_ | refine e_bk_exit ?_ | refine e_lp_exit ?_) | (refine k_load ?_; refine s_ldB rfl rfl ?_) | (refine k_fld ?_; refine s_fldB rfl ?_) | (refine k_call ?_; refine s_len rfl ?_) | refine s_extract rfl rfl ?_))
    rw [doneF_end hf]
    refine s_loop (σ := Nat) (fun i => [(3, .pointer (some ⟨b3, 0, none⟩)), (5, .pointer (some ⟨t, 0, none⟩)), (24, .slice bl.fParams.A bl.fParams.xs.length bl.fParams.c), (25, .int .i64 bl.fParams.xs.length), (26, .int .i64 i)])
      (fun i => [var 81 t (Mr.mk (some m)), mp EB 3 m (n1 + i) (setF (l ++ bl.fParams.xs.take i)), var 60 b3 bl]) (fun i => i ≤ bl.fParams.xs.length) (fun i => bl.fParams.xs.length - i) 0 (by repeat (first | exact trivial | refine ⟨rfl, ?_⟩)) (Nat.zero_le _) (PSub.eq (by simp)) ?_
    intro f i hi
    (repeat' (first | refine s_move ?_ | refine s_assign ?_ | refine s_nil ?_ | (refine k_C ?_; first | refine s_seq ?_ | refine s_region ?_ | refine s_skip ?_ | refine s_block ?_ | refine s_exit ?_ | (refine s_ifd rfl ?_ ?_ <;> intro hc <;> try (exfalso; omega))) | (refine k_E ?_; first | refine e_seq ?_ | refine e_seq_exit ?_ | refine e_bk_exit ?_ | refine e_bk ?_ | refine e_lp_exit ?_) | (refine k_load ?_; first | refine s_ldB rfl rfl ?_ | refine s_ldS rfl rfl om rfl ?_) | (refine k_bin ?_; first | refine s_lss rfl rfl ?_ | refine s_add1 rfl rfl om ?_) | (refine k_fld ?_; refine s_fldB rfl ?_) | (refine k_idx ?_; refine s_idxS rfl rfl om ?_) | (refine k_call ?_; refine s_len rfl ?_) | refine s_func (v1 := []) (v2 := [.pointer _]) rfl rfl ?_ | refine s_putW (yv := true) rfl rfl rfl trivial om ?_))
    · refine e_lp (i + 1) (by repeat (first | exact trivial | refine ⟨rfl, ?_⟩)) (by omega) (by show _ - _ < _ - _; omega) (PSub.eq ?_)
      rw [setF_put, List.append_assoc, take_nth (by omega)]; rfl
    · have hi' : i = bl.fParams.xs.length := by omega
      subst hi'
      rw [List.take_length]
      refine s_loop (σ := Nat × Nat) (fun s => [(3, .pointer (some ⟨b3, 0, none⟩)), (5, .pointer (some ⟨t, 0, none⟩)), (9, .func (.func 37) #[] #[.pointer (some ⟨t, 0, none⟩)]), (35, .slice bl.fIns.A bl.fIns.xs.length bl.fIns.c), (36, .int .i64 bl.fIns.xs.length), (37, .int .i64 s.1)])
        (fun s => [var 81 t (Mr.mk (some m)), mp EB 3 m s.2 (setF (l ++ bl.fParams.xs ++ dstsB7 (bl.fIns.xs.take s.1))), var 60 b3 bl])
        (fun s => s.1 ≤ bl.fIns.xs.length ∧ s.2 ≤ n1 + bl.fParams.xs.length + s.1 ∧ ∀ j, j < s.1 → (nth bl.fIns.xs j).fArgs.xs.all (· ∈ l ++ bl.fParams.xs ++ dstsB7 (bl.fIns.xs.take j)) = true) (fun s => bl.fIns.xs.length - s.1) (0, n1 + bl.fParams.xs.length) (by repeat (first | exact trivial | refine ⟨rfl, ?_⟩)) ⟨Nat.zero_le _, Nat.le_refl _, fun j hj => absurd hj (Nat.not_lt_zero j)⟩ (PSub.eq (by simp [dstsB7])) ?_
      rintro f ⟨i, q⟩ ⟨hi, hm', hall⟩
      dsimp only at hi hm' hall ⊢
      (repeat' (first | refine s_move ?_ | refine s_nil ?_ | (refine k_C ?_; first | refine s_seq ?_ | refine s_region ?_ | refine s_skip ?_ | refine s_block ?_ | refine s_exit ?_ | (refine s_ifd rfl ?_ ?_ <;> intro hc <;> try (exfalso; omega))) | (refine k_E ?_; first | refine e_seq ?_ | refine e_seq_exit ?_ | refine e_bk_exit ?_ | refine e_lp_exit ?_) | (refine k_load ?_; first | refine s_ldB rfl rfl ?_ | refine s_ldSA rfl rfl om rfl ?_) | (refine k_bin ?_; refine s_lss rfl rfl ?_) | (refine k_fld ?_; refine s_fldB rfl ?_) | (refine k_idx ?_; refine s_idxS rfl rfl om ?_) | (refine k_store ?_; refine s_stW _ rfl rfl ?_) | (refine k_call ?_; refine s_len rfl ?_) | (refine s_alloc ?_; intro b)))
      · refine s_callV [] (captured := [.pointer (some ⟨t, 0, none⟩)]) rfl (used1_spec t m q (l ++ bl.fParams.xs ++ dstsB7 (bl.fIns.xs.take i)) (nth bl.fIns.xs i).fArgs) rfl rfl (fun w1 f1 C => ⟨⟨C.var t, C.map m⟩, C.rd (by infer_instance)⟩) ?_
        rintro r' L' ⟨rfl, rfl⟩
        (repeat' (first | refine s_move ?_ | refine s_assign ?_ | refine s_nil ?_ | (refine k_C ?_; first | refine s_seq ?_ | refine s_region ?_ | refine s_skip ?_ | refine s_ret ?_ | (refine s_ifn rfl ?_ ?_ <;> intro hc <;> try (exfalso; omega)) | (refine s_if rfl ?_ ?_ <;> intro hc)) | (refine k_E ?_; first | refine e_seq ?_ | refine e_seq_ret ?_ | refine e_bk_ret ?_ | refine e_bk ?_ | refine e_lp_ret ?_) | (refine k_load ?_; refine s_ldB rfl rfl ?_) | (refine k_bin ?_; first | refine s_add1 rfl rfl om ?_ | refine s_neq rfl rfl ?_) | (refine k_fld ?_; refine s_fldB rfl ?_) | refine s_putW (yv := true) rfl rfl rfl trivial om ?_ | refine s_not rfl ?_))
        · refine e_done rfl rfl _ (PSub.take [] rfl) ⟨?_, rfl⟩
          show Value.bool false = Value.bool _
          have := usesI_at (l := l ++ bl.fParams.xs) (is := bl.fIns.xs) (i := i) (by omega) (by intro h; rw [h] at hc; cases hc)
          rw [usedB, this]; rfl
        · rename_i hci
          refine e_lp (i + 1, q + 1) (by repeat (first | exact trivial | refine ⟨rfl, ?_⟩)) ⟨by show i + 1 ≤ _; omega, by show q + 1 ≤ _ + (i + 1); omega, fun j hj => ?_⟩ (by show _ - _ < _ - _; omega) (PSub.take [1, 1, 1] ?_)
          · rcases Nat.lt_succ_iff_lt_or_eq.1 (show j < i + 1 from hj) with h | rfl
            · exact hall j h
            · simpa using hci
          · show [_, _, _] = [_, _, _]
            rw [setF_put, List.append_assoc (l ++ bl.fParams.xs), dstsB7_one (by omega) hc]
        · rename_i hci
          refine e_lp (i + 1, q) (by repeat (first | exact trivial | refine ⟨rfl, ?_⟩)) ⟨by show i + 1 ≤ _; omega, by show q ≤ _ + (i + 1); omega, fun j hj => ?_⟩ (by show _ - _ < _ - _; omega) (PSub.take [1, 1, 1] ?_)
          · rcases Nat.lt_succ_iff_lt_or_eq.1 (show j < i + 1 from hj) with h | rfl
            · exact hall j h
            · simpa using hci
          · show [_, _, _] = [_, _, _]
            rw [← dstsB7_none (i := i) (by omega) hc]
      · refine s_loop (σ := Nat) (fun s => [(3, .pointer (some ⟨b3, 0, none⟩)), (5, .pointer (some ⟨t, 0, none⟩)), (9, .func (.func 37) #[] #[.pointer (some ⟨t, 0, none⟩)]), (55, .slice bl.fEnd.fWays.A bl.fEnd.fWays.xs.length bl.fEnd.fWays.c), (56, .int .i64 bl.fEnd.fWays.xs.length), (57, .int .i64 s)])
          (fun s => [var 81 t (Mr.mk (some m)), mp EB 3 m q (setF (l ++ madeB bl)), var 60 b3 bl])
          (fun s => s ≤ bl.fEnd.fWays.xs.length ∧ ∀ j, j < s → (nth bl.fEnd.fWays.xs j).fArgs.xs.all (· ∈ l ++ madeB bl) = true) (fun s => bl.fEnd.fWays.xs.length - s) 0 (by repeat (first | exact trivial | refine ⟨rfl, ?_⟩)) ⟨Nat.zero_le _, fun j hj => absurd hj (Nat.not_lt_zero j)⟩ (PSub.eq ?_) ?_
        · have hi' : i = bl.fIns.xs.length := by omega
          subst hi'
          rw [List.take_length, List.append_assoc]; rfl
        rintro f j ⟨hj, hallw⟩
        (repeat' (first | refine s_move ?_ | refine s_assign ?_ | refine s_nil ?_ | (refine k_C ?_; first | refine s_seq ?_ | refine s_region ?_ | refine s_skip ?_ | refine s_block ?_ | refine s_exit ?_ | refine s_ret ?_ | (refine s_ifd rfl ?_ ?_ <;> intro hc <;> try (exfalso; omega))) | (refine k_E ?_; first | refine e_seq ?_ | refine e_seq_exit ?_ | refine e_bk_exit ?_ | refine e_lp_exit ?_) | (refine k_load ?_; first | refine s_ldB rfl rfl ?_ | refine s_ldSA rfl rfl om rfl ?_) | (refine k_bin ?_; first | refine s_lss rfl rfl ?_ | refine s_eql rfl rfl ?_) | (refine k_fld ?_; refine s_fldB rfl ?_) | (refine k_idx ?_; refine s_idxS rfl rfl om ?_) | (refine k_store ?_; refine s_stW _ rfl rfl ?_) | (refine k_guard ?_; first | refine s_on rfl rfl ?_ | refine s_off rfl rfl rfl rfl ?_ | (refine s_casesd rfl rfl ?_ ?_ <;> intro hc <;> try (exfalso; omega))) | refine s_lookW rfl rfl ?_ | (refine s_alloc ?_; intro b) | refine s_pick rfl ?_))
        · refine s_callV [] (captured := [.pointer (some ⟨t, 0, none⟩)]) rfl (used1_spec t m q (l ++ madeB bl) (nth bl.fEnd.fWays.xs j).fArgs) rfl rfl (fun w1 f1 C => ⟨⟨C.var t, C.map m⟩, C.rd (by infer_instance)⟩) ?_
          rintro r' L' ⟨rfl, rfl⟩
          (repeat' (first | refine s_move ?_ | refine s_assign ?_ | refine s_nil ?_ | (refine k_C ?_; first | refine s_seq ?_ | refine s_region ?_ | refine s_skip ?_ | refine s_ret ?_ | (refine s_if rfl ?_ ?_ <;> intro hc)) | (refine k_E ?_; first | refine e_seq ?_ | refine e_seq_ret ?_ | refine e_bk_ret ?_ | refine e_bk ?_ | refine e_lp_ret ?_) | (refine k_bin ?_; refine s_add1 rfl rfl om ?_) | refine s_not rfl ?_))
          · refine e_done rfl rfl _ (PSub.take [] rfl) ⟨?_, rfl⟩
            show Value.bool false = Value.bool _
            have : (bl.fEnd.fWays.xs.all fun w => w.fArgs.xs.all (· ∈ l ++ madeB bl)) = false := by
              rw [List.all_eq_false]
              exact ⟨_, nth_mem (i := j) (by omega), by intro h; rw [h] at hc; cases hc⟩
            rw [usedB, this]; simp
          · refine e_lp (j + 1) (by repeat (first | exact trivial | refine ⟨rfl, ?_⟩)) ⟨by show j + 1 ≤ _; omega, fun k hk => ?_⟩ (by show _ - _ < _ - _; omega) (PSub.take [1, 1, 1] rfl)
            rcases Nat.lt_succ_iff_lt_or_eq.1 (show k < j + 1 from hk) with h | rfl
            · exact hallw k h
            · simpa using hc
        all_goals
          have hu : usesI (l ++ bl.fParams.xs) bl.fIns.xs = true := usesI_all fun k hk => hall k (by omega)
          have hw : (bl.fEnd.fWays.xs.all fun w => w.fArgs.xs.all (· ∈ l ++ madeB bl)) = true := by
            rw [List.all_eq_true]
            intro x hx
            obtain ⟨k, hk, rfl⟩ := List.mem_iff_getElem.1 hx
            rw [← nth_get hk]
            exact hallw k (by omega)
          refine e_done rfl rfl _ (PSub.take [] rfl) ⟨?_, rfl⟩
          rw [usedB, hu, hw]
        · show Value.bool true = _
          simp [hc]
        · show Value.bool ((setF (l ++ madeB bl) bl.fEnd.fVal).getD false) = _
          rw [setF_get]
          simp [hc]
  · haveI : RdD (okOf w0 f0) w0 k := ⟨hk⟩
    dsimp only at hlt ⊢
    (repeat' (first | refine s_nil ?_ | (refine k_C ?_; first | refine s_seq ?_ | refine s_region ?_ | refine s_skip ?_ | refine s_block ?_ | refine s_ift rfl ?_) | (refine k_E ?_; refine e_seq ?_) | refine s_extract rfl rfl ?_))
    refine s_entryS hM rfl ?_
    (repeat' (first | refine s_move ?_ | refine s_assign ?_ | refine s_nil ?_ | (refine k_C ?_; refine s_region ?_) | (refine k_E ?_; first | refine e_seq ?_ | refine e_bk ?_) | (refine k_load ?_; refine s_ldB rfl rfl ?_) | refine s_putW (yv := true) rfl rfl rfl trivial om ?_ | refine s_extract rfl rfl ?_))
    refine e_lp (fun j => todo j && j != k, cnt', n1 + 1) (by repeat (first | exact trivial | refine ⟨rfl, ?_⟩)) (by show n1 + 1 + cnt' ≤ N; omega) hlt (PSub.eq ?_)
    rw [doneF_step hF]
end
end Go.Proofs.Ytoknjpmlloikhaa
