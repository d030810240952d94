/- Layer 7, the small parts: shape, right, Params; functions handed on. -/
import Derived.Test.YtfplmdjlgjgbgaaInst
namespace Go.Proofs.Ytfplmdjlgjgbgaa
set_option linter.unusedVariables false
set_option linter.unusedSimpArgs false
open Go Go.RowKit

def shapeB (o : Int) : Int × Bool := if o = 1 then (0, true) else if o = 3 then (0, true) else if o = 2 then (2, true) else if o = 4 then (1, false) else if o = 5 then (1, true) else if o = 6 then (2, false) else if o = 7 then (-1, true) else (-2, false)
theorem shape_spec (o : Int) : Spec Try.prog 41 [.int .i64 o] [] (fun _ _ => True) fun v L' => v = .tuple #[.int .i64 (shapeB o).1, .bool (shapeB o).2] ∧ L' = [] := by
  refine spec_of Try.func41 rfl rfl fun w0 f0 _ => ?_
  (repeat' (first | refine s_move ?_ | refine s_assign ?_ | refine s_nil ?_ | (refine k_C ?_; first | refine s_seq ?_ | refine s_region ?_ | refine s_skip ?_ | refine s_block ?_ | refine s_ret ?_ | (refine s_ifd rfl ?_ ?_ <;> intro hc <;> try (exfalso; omega))) | (refine k_E ?_; first | refine e_seq ?_ | refine e_seq_ret ?_ | refine e_bk_ret ?_ | refine e_bk ?_) | (refine k_bin ?_; refine s_eql rfl rfl ?_)))
  all_goals first
    | (refine e_done2 rfl rfl rfl _ (PSub.take [] rfl) ⟨?_, rfl⟩; simp only [shapeB, *]; rfl)
    | skip

theorem known_op_spec (o : Int) : Spec Try.prog 42 [.int .i64 o] [] (fun _ _ => True) fun v L' => v = .bool (decide (1 ≤ o ∧ o ≤ 15)) ∧ L' = [] := by
  refine spec_of Try.func42 rfl rfl fun w0 f0 _ => ?_
  (repeat' (first | refine s_move ?_ | refine s_assign ?_ | refine s_nil ?_ | (refine k_C ?_; first | refine s_seq ?_ | refine s_region ?_ | refine s_ret ?_) | (refine k_E ?_; refine e_seq ?_) | (refine k_bin ?_; first | refine s_geq rfl rfl ?_ | refine s_leq rfl rfl ?_) | (refine k_guard ?_; first | refine s_on rfl rfl ?_ | refine s_off rfl rfl rfl rfl ?_ | (refine s_casesd rfl rfl ?_ ?_ <;> intro hc <;> try (exfalso; omega))) | refine s_pick rfl ?_))
  all_goals refine e_done rfl rfl _ (PSub.take [] rfl) ⟨?_, rfl⟩
  · show Value.bool _ = _
    congr 1
    have h : 1 ≤ o := by assumption
    simp [h]
  · show Value.bool false = _
    congr 1
    symm
    exact decide_eq_false (by omega)

theorem params_spec (f : SsaFunc) : Spec Try.prog 30 [.agg (Enc.enc f).toArray] [] (fun ok w => RdD ok w f) fun v L' => v = (let s := (nth f.fBlocks.xs 0).fParams; .slice s.A s.xs.length s.c) ∧ L' = [] := by
  refine spec_of Try.func30 rfl rfl fun w0 f0 hf => ?_
  (repeat' (first | refine s_assign ?_ | refine s_nil ?_ | (refine k_C ?_; first | refine s_seq ?_ | refine s_region ?_ | refine s_skip ?_ | refine s_ret ?_ | (refine s_ifd rfl ?_ ?_ <;> intro hc <;> try (exfalso; omega))) | (refine k_E ?_; first | refine e_seq ?_ | refine e_seq_ret ?_) | (refine k_load ?_; first | refine s_ldB rfl rfl ?_ | refine s_ldS rfl rfl om rfl ?_) | (refine k_bin ?_; refine s_eql rfl rfl ?_) | (refine k_fld ?_; first | refine s_fld rfl ?_ | refine s_fldB rfl ?_) | (refine k_idx ?_; refine s_idxS rfl rfl om ?_) | (refine k_call ?_; refine s_len rfl ?_) | (refine s_box _ rfl ?_; intro b)))
  · refine e_done rfl rfl _ (PSub.take [] rfl) ⟨?_, rfl⟩
    have : f.fBlocks.xs = [] := List.eq_nil_of_length_eq_zero (by omega)
    rw [this]; rfl
  · exact e_done rfl rfl _ (PSub.take [] rfl) ⟨rfl, rfl⟩

theorem cloneI_spec (s : Sl Int) (hl : s.xs.length ≤ 1000000) : Spec Try.prog 39 [.slice s.A s.xs.length s.c] [] (fun ok w => RdD ok w s) fun v L' => ∃ A c, v = .slice A s.xs.length c ∧ L' = [own 3 A s.xs.length c s.xs] := by
  refine spec_of Try.func39 rfl rfl fun w0 f0 hs => ?_
  (repeat' (first | refine s_move ?_ | refine s_assign ?_ | refine s_nil ?_ | (refine k_C ?_; first | refine s_seq ?_ | refine s_region ?_ | refine s_skip ?_ | refine s_ret ?_ | (refine s_if rfl ?_ ?_ <;> intro hc)) | (refine k_E ?_; first | refine e_seq ?_ | refine e_seq_ret ?_) | (refine k_bin ?_; refine s_snil rfl rfl ?_) | (refine k_call ?_; (refine s_appS rfl rfl om ?_; intro A c)) | (refine s_lit [] rfl (by decide) rfl ?_; intro b)))
  · have h0 : s.xs = [] := by
      rcases hs.h.1.2.2.2 with h | ⟨a, h, _⟩
      · exact List.eq_nil_of_length_eq_zero h
      · rw [h] at hc; cases hc
    refine e_done rfl rfl _ (PSub.nilOwn 3) ⟨none, 0, by rw [h0]; rfl, by rw [h0]; rfl⟩
  · exact e_done rfl rfl _ (PSub.eq (by rw [Nat.zero_add, List.nil_append])) ⟨A, c, congrArg (fun l => Value.slice A l c) (Nat.zero_add _), rfl⟩

theorem idx_Ins_spec (g : FuncId) (cap : List Value) (s : Sl (SsaIns)) (p : SsaIns → Bool) (Rd : FP → World → Prop) (hRd : Lasts Rd) [IsFc Try.prog g] (hp : ∀ x ∈ s.xs, Spec Try.prog g ([.agg (Enc.enc x).toArray] ++ cap) [] (fun ok w => Rd ok w ∧ RdD ok w x) fun v L' => v = .bool (p x) ∧ L' = []) :
    Spec Try.prog 40 [.slice s.A s.xs.length s.c, .func (.func g) #[] cap.toArray] [] (fun ok w => Rd ok w ∧ RdD ok w s) fun v L' => ∃ r : Int, v = .int .i64 r ∧ (0 ≤ r ↔ s.xs.any p = true) ∧ L' = [] := by
  refine spec_of Try.func40 rfl rfl fun w0 f0 ⟨hR, hs⟩ => ?_
  (repeat' (first | refine s_move ?_ | refine s_assign ?_ | refine s_nil ?_ | (refine k_C ?_; first | refine s_seq ?_ | refine s_region ?_ | refine s_block ?_) | (refine k_E ?_; refine e_seq ?_) | (refine k_call ?_; refine s_len rfl ?_)))
  refine s_loop (σ := Nat) (fun k => [(0, .slice s.A s.xs.length s.c), (1, .func (.func g) #[] cap.toArray), (7, .int .i64 s.xs.length), (8, .int .i64 (k : Nat))]) (fun _ => []) (fun k => k ≤ s.xs.length ∧ (s.xs.take k).any p = false) (fun k => s.xs.length - k) 0 (by repeat (first | exact trivial | refine ⟨rfl, ?_⟩)) ⟨Nat.zero_le _, rfl⟩ PSub.refl ?_
  rintro f k ⟨hk, hno⟩
  have hlen : s.xs.length ≤ 9223372036854775807 := by have := hs.h.1.2.1; have := hs.h.1.2.2.1; simp only [maxLen] at *; omega
  have tk : k < s.xs.length → s.xs.take (k + 1) = s.xs.take k ++ [nth s.xs k] := fun h => by rw [List.take_add_one, nth_some h]; rfl
  (repeat' (first | refine s_move ?_ | refine s_assign ?_ | refine s_nil ?_ | (refine k_C ?_; first | refine s_seq ?_ | refine s_region ?_ | refine s_skip ?_ | refine s_block ?_ | refine s_exit ?_ | refine s_ret ?_ | (refine s_ifd rfl ?_ ?_ <;> intro hc <;> try (exfalso; omega))) | (refine k_E ?_; first | refine e_seq ?_ | refine e_seq_exit ?_ | refine e_bk_exit ?_ | refine e_lp_exit ?_) | (refine k_load ?_; refine s_ldSA rfl rfl om rfl ?_) | (refine k_bin ?_; refine s_lss rfl rfl ?_) | (refine k_idx ?_; refine s_idxS rfl rfl om ?_)))
  · have hk2 : k < s.xs.length := by omega
    refine s_callV0 rfl (hp (nth s.xs k) (nth_mem hk2)) rfl (fun w1 H => ⟨hRd.at hR H, H.rdD inferInstance⟩) ?_
    rintro v L' ⟨rfl, rfl⟩
    (repeat' (first | refine s_move ?_ | refine s_assign ?_ | refine s_nil ?_ | (refine k_C ?_; first | refine s_seq ?_ | refine s_region ?_ | refine s_skip ?_ | refine s_ret ?_ | (refine s_if rfl ?_ ?_ <;> intro hc)) | (refine k_E ?_; first | refine e_seq ?_ | refine e_seq_ret ?_ | refine e_bk_ret ?_ | refine e_bk ?_ | refine e_lp_ret ?_) | (refine k_bin ?_; refine s_add1 rfl rfl om ?_)))
    · refine e_done rfl rfl _ (PSub.take [] rfl) ⟨_, rfl, ⟨fun _ => ?_, fun _ => by omega⟩, rfl⟩
      exact List.any_eq_true.2 ⟨_, nth_mem hk2, hc⟩
    · refine e_lp (k + 1) (by repeat (first | exact trivial | refine ⟨rfl, ?_⟩)) ⟨by omega, ?_⟩ (by show _ - _ < _ - _; omega) (PSub.take [] rfl)
      rw [tk hk2, List.any_append, hno]; simp [hc]
  · refine e_done rfl rfl _ (PSub.take [] rfl) ⟨_, rfl, ⟨fun h => absurd h (by decide), fun h => ?_⟩, rfl⟩
    rw [List.take_of_length_le (by omega)] at hno
    rw [hno] at h; cases h
theorem has_Ins_spec (g : FuncId) (cap : List Value) (s : Sl (SsaIns)) (p : SsaIns → Bool) (Rd : FP → World → Prop) (hRd : Lasts Rd) [IsFc Try.prog g] (hp : ∀ x ∈ s.xs, Spec Try.prog g ([.agg (Enc.enc x).toArray] ++ cap) [] (fun ok w => Rd ok w ∧ RdD ok w x) fun v L' => v = .bool (p x) ∧ L' = []) :
    Spec Try.prog 33 [.slice s.A s.xs.length s.c, .func (.func g) #[] cap.toArray] [] (fun ok w => Rd ok w ∧ RdD ok w s) fun v L' => v = .bool (s.xs.any p) ∧ L' = [] := by
  refine spec_of Try.func33 rfl rfl fun w0 f0 ⟨hR, hs⟩ => ?_
  (repeat' (first | refine s_move ?_ | refine s_assign ?_ | refine s_nil ?_ | (refine k_C ?_; first | refine s_seq ?_ | refine s_region ?_) | (refine k_E ?_; refine e_seq ?_)))
  refine s_call0 (idx_Ins_spec g cap s p Rd hRd hp) rfl (fun w1 H => ⟨hRd.at hR H, H.rdD hs⟩) ?_
  rintro v L' ⟨r, rfl, hr, rfl⟩
  (repeat' (first | refine s_assign ?_ | refine s_nil ?_ | (refine k_C ?_; refine s_ret ?_) | (refine k_E ?_; refine e_seq ?_) | (refine k_bin ?_; refine s_geq rfl rfl ?_)))
  refine e_done rfl rfl _ (PSub.take [] rfl) ⟨?_, rfl⟩
  show Value.bool (decide (0 ≤ r)) = _
  congr 1
  rw [Bool.eq_iff_iff, ← hr]; simp

theorem idx_Int_spec (g : FuncId) (cap : List Value) (s : Sl (Int)) (p : Int → Bool) (Rd : FP → World → Prop) (hRd : Lasts Rd) [IsFc Try.prog g] (hp : ∀ x ∈ s.xs, Spec Try.prog g ([.int .i64 x] ++ cap) [] (fun ok w => Rd ok w ∧ RdD ok w x) fun v L' => v = .bool (p x) ∧ L' = []) :
    Spec Try.prog 48 [.slice s.A s.xs.length s.c, .func (.func g) #[] cap.toArray] [] (fun ok w => Rd ok w ∧ RdD ok w s) fun v L' => ∃ r : Int, v = .int .i64 r ∧ (0 ≤ r ↔ s.xs.any p = true) ∧ L' = [] := by
  refine spec_of Try.func48 rfl rfl fun w0 f0 ⟨hR, hs⟩ => ?_
  (repeat' (first | refine s_move ?_ | refine s_assign ?_ | refine s_nil ?_ | (refine k_C ?_; first | refine s_seq ?_ | refine s_region ?_ | refine s_block ?_) | (refine k_E ?_; refine e_seq ?_) | (refine k_call ?_; refine s_len rfl ?_)))
  refine s_loop (σ := Nat) (fun k => [(0, .slice s.A s.xs.length s.c), (1, .func (.func g) #[] cap.toArray), (7, .int .i64 s.xs.length), (8, .int .i64 (k : Nat))]) (fun _ => []) (fun k => k ≤ s.xs.length ∧ (s.xs.take k).any p = false) (fun k => s.xs.length - k) 0 (by repeat (first | exact trivial | refine ⟨rfl, ?_⟩)) ⟨Nat.zero_le _, rfl⟩ PSub.refl ?_
  rintro f k ⟨hk, hno⟩
  have hlen : s.xs.length ≤ 9223372036854775807 := by have := hs.h.1.2.1; have := hs.h.1.2.2.1; simp only [maxLen] at *; omega
  have tk : k < s.xs.length → s.xs.take (k + 1) = s.xs.take k ++ [nth s.xs k] := fun h => by rw [List.take_add_one, nth_some h]; rfl
  (repeat' (first | refine s_move ?_ | refine s_assign ?_ | refine s_nil ?_ | (refine k_C ?_; first | refine s_seq ?_ | refine s_region ?_ | refine s_skip ?_ | refine s_block ?_ | refine s_exit ?_ | refine s_ret ?_ | (refine s_ifd rfl ?_ ?_ <;> intro hc <;> try (exfalso; omega))) | (refine k_E ?_; first | refine e_seq ?_ | refine e_seq_exit ?_ | refine e_bk_exit ?_ | refine e_lp_exit ?_) | (refine k_load ?_; refine s_ldS rfl rfl om rfl ?_) | (refine k_bin ?_; refine s_lss rfl rfl ?_) | (refine k_idx ?_; refine s_idxS rfl rfl om ?_)))
  · have hk2 : k < s.xs.length := by omega
    refine s_callV0 rfl (hp (nth s.xs k) (nth_mem hk2)) rfl (fun w1 H => ⟨hRd.at hR H, H.rdD inferInstance⟩) ?_
    rintro v L' ⟨rfl, rfl⟩
    (repeat' (first | refine s_move ?_ | refine s_assign ?_ | refine s_nil ?_ | (refine k_C ?_; first | refine s_seq ?_ | refine s_region ?_ | refine s_skip ?_ | refine s_ret ?_ | (refine s_if rfl ?_ ?_ <;> intro hc)) | (refine k_E ?_; first | refine e_seq ?_ | refine e_seq_ret ?_ | refine e_bk_ret ?_ | refine e_bk ?_ | refine e_lp_ret ?_) | (refine k_bin ?_; refine s_add1 rfl rfl om ?_)))
    · refine e_done rfl rfl _ (PSub.take [] rfl) ⟨_, rfl, ⟨fun _ => ?_, fun _ => by omega⟩, rfl⟩
      exact List.any_eq_true.2 ⟨_, nth_mem hk2, hc⟩
    · refine e_lp (k + 1) (by repeat (first | exact trivial | refine ⟨rfl, ?_⟩)) ⟨by omega, ?_⟩ (by show _ - _ < _ - _; omega) (PSub.take [] rfl)
      rw [tk hk2, List.any_append, hno]; simp [hc]
  · refine e_done rfl rfl _ (PSub.take [] rfl) ⟨_, rfl, ⟨fun h => absurd h (by decide), fun h => ?_⟩, rfl⟩
    rw [List.take_of_length_le (by omega)] at hno
    rw [hno] at h; cases h
theorem has_Int_spec (g : FuncId) (cap : List Value) (s : Sl (Int)) (p : Int → Bool) (Rd : FP → World → Prop) (hRd : Lasts Rd) [IsFc Try.prog g] (hp : ∀ x ∈ s.xs, Spec Try.prog g ([.int .i64 x] ++ cap) [] (fun ok w => Rd ok w ∧ RdD ok w x) fun v L' => v = .bool (p x) ∧ L' = []) :
    Spec Try.prog 46 [.slice s.A s.xs.length s.c, .func (.func g) #[] cap.toArray] [] (fun ok w => Rd ok w ∧ RdD ok w s) fun v L' => v = .bool (s.xs.any p) ∧ L' = [] := by
  refine spec_of Try.func46 rfl rfl fun w0 f0 ⟨hR, hs⟩ => ?_
  (repeat' (first | refine s_move ?_ | refine s_assign ?_ | refine s_nil ?_ | (refine k_C ?_; first | refine s_seq ?_ | refine s_region ?_) | (refine k_E ?_; refine e_seq ?_)))
  refine s_call0 (idx_Int_spec g cap s p Rd hRd hp) rfl (fun w1 H => ⟨hRd.at hR H, H.rdD hs⟩) ?_
  rintro v L' ⟨r, rfl, hr, rfl⟩
  (repeat' (first | refine s_assign ?_ | refine s_nil ?_ | (refine k_C ?_; refine s_ret ?_) | (refine k_E ?_; refine e_seq ?_) | (refine k_bin ?_; refine s_geq rfl rfl ?_)))
  refine e_done rfl rfl _ (PSub.take [] rfl) ⟨?_, rfl⟩
  show Value.bool (decide (0 ≤ r)) = _
  congr 1
  rw [Bool.eq_iff_iff, ← hr]; simp

end Go.Proofs.Ytfplmdjlgjgbgaa
