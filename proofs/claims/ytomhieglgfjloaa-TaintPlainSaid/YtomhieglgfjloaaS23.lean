/- Clones of rows. -/
import Derived.Test.YtomhieglgfjloaaS15
import Derived.Test.YtomhieglgfjloaaA10
namespace Go.Proofs.Ytomhieglgfjloaa
set_option linter.unusedVariables false
set_option linter.unusedSimpArgs false
open Go Go.RowKit

theorem clone_Array_spec (s : Sl SsaArray) (hl : s.xs.length ≤ 100000) : Spec Try.prog 31 [.slice s.A s.xs.length s.c] [] (fun ok w => RdD ok w s) fun v L' => ∃ A c, v = .slice A s.xs.length c ∧ L' = [own 66 A s.xs.length c s.xs] := by
  refine spec_of Try.func31 rfl rfl fun w0 f0 hs => ?_
  (repeat' (first | refine s_move ?_ | refine s_assign ?_ | refine s_nil ?_ | (refine k_C ?_; first | refine s_seq ?_ | refine s_region ?_ | refine s_stillP foI rfl (by kernel_rfl) ?_ | refine s_skip ?_ | refine s_block ?_ | refine s_exit ?_ | refine s_ret ?_ | refine s_ift rfl ?_ | refine s_iff rfl ?_ | (refine s_ifd rfl ?_ ?_ <;> intro hc <;> try (exfalso; omega)) | (refine s_ifn rfl ?_ ?_ <;> intro hc <;> try (exfalso; omega)) | (refine s_if rfl ?_ ?_ <;> intro hc)) | (refine k_E ?_; first | refine e_seq ?_ | refine e_seq_ret ?_ | refine e_seq_exit ?_ | refine e_bk_exit ?_ | refine e_bk_ret ?_ | refine e_bk ?_ | refine e_bk_out rfl ?_ | refine e_lp_ret ?_ | refine e_lp_exit ?_ | refine e_ct_ret ?_ | refine e_ct_exit ?_) | (refine k_load ?_; first | refine s_ldB rfl rfl ?_ | refine s_ldBW rfl rfl ?_ | refine s_ldBA rfl (by decide) ?_ | refine s_ldRB rfl rfl ?_ | refine s_ldRBA rfl (by decide) ?_ | refine s_ld rfl om rfl ?_ | refine s_ldF rfl om rfl ?_ | refine s_ldA rfl om rfl ?_ | refine s_ldFA rfl om (by decide) ?_ | refine s_ldR rfl om rfl ?_ | refine s_ldS rfl rfl om rfl ?_ | refine s_ldSF rfl rfl om rfl ?_ | refine s_ldSA rfl rfl om rfl ?_ | refine s_ldSFA rfl rfl om (by decide) ?_) | (refine k_bin ?_; first | refine s_lss rfl rfl ?_ | refine s_add1 rfl rfl om ?_ | refine s_add64 rfl rfl om ?_ | refine s_sub64 rfl rfl om ?_ | refine s_eql rfl rfl ?_ | refine s_neq rfl rfl ?_ | refine s_gtr rfl rfl ?_ | refine s_geq rfl rfl ?_ | refine s_leq rfl rfl ?_ | refine s_beq rfl rfl ?_ | refine s_pnil rfl rfl ?_ | refine s_snil rfl rfl ?_ | refine s_bne rfl rfl ?_ | refine s_rem rfl rfl om ?_ | refine s_mul64 rfl rfl om ?_ | refine s_xor1 rfl rfl om ?_ | refine s_xor1I rfl rfl om om ?_ | refine s_shr rfl rfl om ?_ | refine s_shl1 rfl rfl om ?_ | refine s_and1 rfl rfl om ?_ | refine s_orN rfl rfl om om ?_) | (refine k_fld ?_; first | refine s_fld rfl ?_ | refine s_fldB rfl ?_) | (refine k_idx ?_; first | refine s_idx rfl rfl om ?_ | refine s_idxI rfl rfl om om ?_ | refine s_idxR rfl rfl om ?_ | refine s_idxRI rfl rfl om om ?_ | refine s_idxS rfl rfl om ?_ | refine s_idxSI rfl rfl om om ?_ | refine s_idxV (j := 0) rfl rfl (by decide) ?_ | refine s_idxV rfl rfl (by decide) ?_) | (refine k_store ?_; first | refine s_stW _ rfl rfl ?_ | refine s_st _ rfl rfl om ?_ | refine s_stB _ rfl rfl rfl (by decide) ?_) | (refine k_call ?_; first | refine s_len rfl ?_ | refine s_cap rfl ?_ | refine s_min rfl rfl ?_ | refine s_max rfl rfl ?_ | (refine s_appS rfl rfl om ?_; intro A c) | (refine s_appO rfl rfl om ?_; intro A c)) | (refine k_guard ?_; first | refine s_on rfl rfl ?_ | refine s_off rfl rfl rfl rfl ?_ | refine s_offU rfl rfl rfl rfl ?_ | (refine s_casesd rfl rfl ?_ ?_ <;> intro hc <;> try (exfalso; omega)) | (refine s_casesn rfl rfl ?_ ?_ <;> intro hc <;> try (exfalso; omega)) | (refine s_cases rfl rfl ?_ ?_ <;> intro hc)) | refine s_func (v1 := []) (v2 := [.pointer _]) rfl rfl ?_ | refine s_func (v1 := []) (v2 := []) rfl rfl ?_ | refine s_putW (yv := true) rfl rfl rfl trivial om ?_ | refine s_putIW (yv := true) rfl rfl rfl trivial om ?_ | refine s_lookW rfl rfl ?_ | refine s_lookSW rfl rfl ?_ | (refine s_alloc ?_; intro b) | (refine s_box _ rfl ?_; intro b) | (refine s_make rfl rfl om ?_; intro b) | (refine s_makeI rfl rfl om om ?_; intro b) | refine s_cutH rfl rfl om om ?_ | (refine s_cutL rfl rfl om ?_; intro A) | refine s_not rfl ?_ | refine s_pick rfl ?_ | refine s_convU rfl om ?_ | refine s_convUI rfl om om ?_ | refine s_extract rfl rfl ?_ | refine s_nilck rfl ?_ | (refine s_app1 _ (fun _ => rfl) rfl om ?_; intro v A c) | (refine s_app1N _ (fun _ => rfl) rfl (by decide) ?_; intro v A c) | (refine s_mkmapB ?_; intro b) | (refine s_mkmapI ?_; intro b) | (refine s_lit [] rfl (by decide) rfl ?_; intro b) | (refine s_lit [_] rfl (by decide) rfl ?_; intro b) | (refine s_lit [_, _] rfl (by decide) rfl ?_; intro b) | (refine s_lit [_, _, _] rfl (by decide) rfl ?_; intro b)))
  · have h0 : s.xs = [] := by
      rcases hs.h.1.2.2.2 with h | ⟨a, h, _⟩
      · exact List.eq_nil_of_length_eq_zero h
      · rw [h] at hc; cases hc
    refine e_done rfl rfl _ (PSub.nilOwn 66) ⟨none, 0, by rw [h0]; rfl, by rw [h0]; rfl⟩
  · exact e_done rfl rfl _ (PSub.eq (by rw [Nat.zero_add, List.nil_append])) ⟨A, c, congrArg (fun l => Value.slice A l c) (Nat.zero_add _), rfl⟩
theorem clone_Func_spec (s : Sl SsaFunc) (hl : s.xs.length ≤ 100000) : Spec Try.prog 32 [.slice s.A s.xs.length s.c] [] (fun ok w => RdD ok w s) fun v L' => ∃ A c, v = .slice A s.xs.length c ∧ L' = [own 46 A s.xs.length c s.xs] := by
  refine spec_of Try.func32 rfl rfl fun w0 f0 hs => ?_
  (repeat' (first | refine s_move ?_ | refine s_assign ?_ | refine s_nil ?_ | (refine k_C ?_; first | refine s_seq ?_ | refine s_region ?_ | refine s_stillP foI rfl (by kernel_rfl) ?_ | refine s_skip ?_ | refine s_block ?_ | refine s_exit ?_ | refine s_ret ?_ | refine s_ift rfl ?_ | refine s_iff rfl ?_ | (refine s_ifd rfl ?_ ?_ <;> intro hc <;> try (exfalso; omega)) | (refine s_ifn rfl ?_ ?_ <;> intro hc <;> try (exfalso; omega)) | (refine s_if rfl ?_ ?_ <;> intro hc)) | (refine k_E ?_; first | refine e_seq ?_ | refine e_seq_ret ?_ | refine e_seq_exit ?_ | refine e_bk_exit ?_ | refine e_bk_ret ?_ | refine e_bk ?_ | refine e_bk_out rfl ?_ | refine e_lp_ret ?_ | refine e_lp_exit ?_ | refine e_ct_ret ?_ | refine e_ct_exit ?_) | (refine k_load ?_; first | refine s_ldB rfl rfl ?_ | refine s_ldBW rfl rfl ?_ | refine s_ldBA rfl (by decide) ?_ | refine s_ldRB rfl rfl ?_ | refine s_ldRBA rfl (by decide) ?_ | refine s_ld rfl om rfl ?_ | refine s_ldF rfl om rfl ?_ | refine s_ldA rfl om rfl ?_ | refine s_ldFA rfl om (by decide) ?_ | refine s_ldR rfl om rfl ?_ | refine s_ldS rfl rfl om rfl ?_ | refine s_ldSF rfl rfl om rfl ?_ | refine s_ldSA rfl rfl om rfl ?_ | refine s_ldSFA rfl rfl om (by decide) ?_) | (refine k_bin ?_; first | refine s_lss rfl rfl ?_ | refine s_add1 rfl rfl om ?_ | refine s_add64 rfl rfl om ?_ | refine s_sub64 rfl rfl om ?_ | refine s_eql rfl rfl ?_ | refine s_neq rfl rfl ?_ | refine s_gtr rfl rfl ?_ | refine s_geq rfl rfl ?_ | refine s_leq rfl rfl ?_ | refine s_beq rfl rfl ?_ | refine s_pnil rfl rfl ?_ | refine s_snil rfl rfl ?_ | refine s_bne rfl rfl ?_ | refine s_rem rfl rfl om ?_ | refine s_mul64 rfl rfl om ?_ | refine s_xor1 rfl rfl om ?_ | refine s_xor1I rfl rfl om om ?_ | refine s_shr rfl rfl om ?_ | refine s_shl1 rfl rfl om ?_ | refine s_and1 rfl rfl om ?_ | refine s_orN rfl rfl om om ?_) | (refine k_fld ?_; first | refine s_fld rfl ?_ | refine s_fldB rfl ?_) | (refine k_idx ?_; first | refine s_idx rfl rfl om ?_ | refine s_idxI rfl rfl om om ?_ | refine s_idxR rfl rfl om ?_ | refine s_idxRI rfl rfl om om ?_ | refine s_idxS rfl rfl om ?_ | refine s_idxSI rfl rfl om om ?_ | refine s_idxV (j := 0) rfl rfl (by decide) ?_ | refine s_idxV rfl rfl (by decide) ?_) | (refine k_store ?_; first | refine s_stW _ rfl rfl ?_ | refine s_st _ rfl rfl om ?_ | refine s_stB _ rfl rfl rfl (by decide) ?_) | (refine k_call ?_; first | refine s_len rfl ?_ | refine s_cap rfl ?_ | refine s_min rfl rfl ?_ | refine s_max rfl rfl ?_ | (refine s_appS rfl rfl om ?_; intro A c) | (refine s_appO rfl rfl om ?_; intro A c)) | (refine k_guard ?_; first | refine s_on rfl rfl ?_ | refine s_off rfl rfl rfl rfl ?_ | refine s_offU rfl rfl rfl rfl ?_ | (refine s_casesd rfl rfl ?_ ?_ <;> intro hc <;> try (exfalso; omega)) | (refine s_casesn rfl rfl ?_ ?_ <;> intro hc <;> try (exfalso; omega)) | (refine s_cases rfl rfl ?_ ?_ <;> intro hc)) | refine s_func (v1 := []) (v2 := [.pointer _]) rfl rfl ?_ | refine s_func (v1 := []) (v2 := []) rfl rfl ?_ | refine s_putW (yv := true) rfl rfl rfl trivial om ?_ | refine s_putIW (yv := true) rfl rfl rfl trivial om ?_ | refine s_lookW rfl rfl ?_ | refine s_lookSW rfl rfl ?_ | (refine s_alloc ?_; intro b) | (refine s_box _ rfl ?_; intro b) | (refine s_make rfl rfl om ?_; intro b) | (refine s_makeI rfl rfl om om ?_; intro b) | refine s_cutH rfl rfl om om ?_ | (refine s_cutL rfl rfl om ?_; intro A) | refine s_not rfl ?_ | refine s_pick rfl ?_ | refine s_convU rfl om ?_ | refine s_convUI rfl om om ?_ | refine s_extract rfl rfl ?_ | refine s_nilck rfl ?_ | (refine s_app1 _ (fun _ => rfl) rfl om ?_; intro v A c) | (refine s_app1N _ (fun _ => rfl) rfl (by decide) ?_; intro v A c) | (refine s_mkmapB ?_; intro b) | (refine s_mkmapI ?_; intro b) | (refine s_lit [] rfl (by decide) rfl ?_; intro b) | (refine s_lit [_] rfl (by decide) rfl ?_; intro b) | (refine s_lit [_, _] rfl (by decide) rfl ?_; intro b) | (refine s_lit [_, _, _] rfl (by decide) rfl ?_; intro b)))
  · have h0 : s.xs = [] := by
      rcases hs.h.1.2.2.2 with h | ⟨a, h, _⟩
      · exact List.eq_nil_of_length_eq_zero h
      · rw [h] at hc; cases hc
    refine e_done rfl rfl _ (PSub.nilOwn 46) ⟨none, 0, by rw [h0]; rfl, by rw [h0]; rfl⟩
  · exact e_done rfl rfl _ (PSub.eq (by rw [Nat.zero_add, List.nil_append])) ⟨A, c, congrArg (fun l => Value.slice A l c) (Nat.zero_add _), rfl⟩
theorem clone_Block_spec (s : Sl SsaBlock) (hl : s.xs.length ≤ 100000) : Spec Try.prog 48 [.slice s.A s.xs.length s.c] [] (fun ok w => RdD ok w s) fun v L' => ∃ A c, v = .slice A s.xs.length c ∧ L' = [own 55 A s.xs.length c s.xs] := by
  refine spec_of Try.func48 rfl rfl fun w0 f0 hs => ?_
  (repeat' (first | refine s_move ?_ | refine s_assign ?_ | refine s_nil ?_ | (refine k_C ?_; first | refine s_seq ?_ | refine s_region ?_ | refine s_stillP foI rfl (by kernel_rfl) ?_ | refine s_skip ?_ | refine s_block ?_ | refine s_exit ?_ | refine s_ret ?_ | refine s_ift rfl ?_ | refine s_iff rfl ?_ | (refine s_ifd rfl ?_ ?_ <;> intro hc <;> try (exfalso; omega)) | (refine s_ifn rfl ?_ ?_ <;> intro hc <;> try (exfalso; omega)) | (refine s_if rfl ?_ ?_ <;> intro hc)) | (refine k_E ?_; first | refine e_seq ?_ | refine e_seq_ret ?_ | refine e_seq_exit ?_ | refine e_bk_exit ?_ | refine e_bk_ret ?_ | refine e_bk ?_ | refine e_bk_out rfl ?_ | refine e_lp_ret ?_ | refine e_lp_exit ?_ | refine e_ct_ret ?_ | refine e_ct_exit ?_) | (refine k_load ?_; first | refine s_ldB rfl rfl ?_ | refine s_ldBW rfl rfl ?_ | refine s_ldBA rfl (by decide) ?_ | refine s_ldRB rfl rfl ?_ | refine s_ldRBA rfl (by decide) ?_ | refine s_ld rfl om rfl ?_ | refine s_ldF rfl om rfl ?_ | refine s_ldA rfl om rfl ?_ | refine s_ldFA rfl om (by decide) ?_ | refine s_ldR rfl om rfl ?_ | refine s_ldS rfl rfl om rfl ?_ | refine s_ldSF rfl rfl om rfl ?_ | refine s_ldSA rfl rfl om rfl ?_ | refine s_ldSFA rfl rfl om (by decide) ?_) | (refine k_bin ?_; first | refine s_lss rfl rfl ?_ | refine s_add1 rfl rfl om ?_ | refine s_add64 rfl rfl om ?_ | refine s_sub64 rfl rfl om ?_ | refine s_eql rfl rfl ?_ | refine s_neq rfl rfl ?_ | refine s_gtr rfl rfl ?_ | refine s_geq rfl rfl ?_ | refine s_leq rfl rfl ?_ | refine s_beq rfl rfl ?_ | refine s_pnil rfl rfl ?_ | refine s_snil rfl rfl ?_ | refine s_bne rfl rfl ?_ | refine s_rem rfl rfl om ?_ | refine s_mul64 rfl rfl om ?_ | refine s_xor1 rfl rfl om ?_ | refine s_xor1I rfl rfl om om ?_ | refine s_shr rfl rfl om ?_ | refine s_shl1 rfl rfl om ?_ | refine s_and1 rfl rfl om ?_ | refine s_orN rfl rfl om om ?_) | (refine k_fld ?_; first | refine s_fld rfl ?_ | refine s_fldB rfl ?_) | (refine k_idx ?_; first | refine s_idx rfl rfl om ?_ | refine s_idxI rfl rfl om om ?_ | refine s_idxR rfl rfl om ?_ | refine s_idxRI rfl rfl om om ?_ | refine s_idxS rfl rfl om ?_ | refine s_idxSI rfl rfl om om ?_ | refine s_idxV (j := 0) rfl rfl (by decide) ?_ | refine s_idxV rfl rfl (by decide) ?_) | (refine k_store ?_; first | refine s_stW _ rfl rfl ?_ | refine s_st _ rfl rfl om ?_ | refine s_stB _ rfl rfl rfl (by decide) ?_) | (refine k_call ?_; first | refine s_len rfl ?_ | refine s_cap rfl ?_ | refine s_min rfl rfl ?_ | refine s_max rfl rfl ?_ | (refine s_appS rfl rfl om ?_; intro A c) | (refine s_appO rfl rfl om ?_; intro A c)) | (refine k_guard ?_; first | refine s_on rfl rfl ?_ | refine s_off rfl rfl rfl rfl ?_ | refine s_offU rfl rfl rfl rfl ?_ | (refine s_casesd rfl rfl ?_ ?_ <;> intro hc <;> try (exfalso; omega)) | (refine s_casesn rfl rfl ?_ ?_ <;> intro hc <;> try (exfalso; omega)) | (refine s_cases rfl rfl ?_ ?_ <;> intro hc)) | refine s_func (v1 := []) (v2 := [.pointer _]) rfl rfl ?_ | refine s_func (v1 := []) (v2 := []) rfl rfl ?_ | refine s_putW (yv := true) rfl rfl rfl trivial om ?_ | refine s_putIW (yv := true) rfl rfl rfl trivial om ?_ | refine s_lookW rfl rfl ?_ | refine s_lookSW rfl rfl ?_ | (refine s_alloc ?_; intro b) | (refine s_box _ rfl ?_; intro b) | (refine s_make rfl rfl om ?_; intro b) | (refine s_makeI rfl rfl om om ?_; intro b) | refine s_cutH rfl rfl om om ?_ | (refine s_cutL rfl rfl om ?_; intro A) | refine s_not rfl ?_ | refine s_pick rfl ?_ | refine s_convU rfl om ?_ | refine s_convUI rfl om om ?_ | refine s_extract rfl rfl ?_ | refine s_nilck rfl ?_ | (refine s_app1 _ (fun _ => rfl) rfl om ?_; intro v A c) | (refine s_app1N _ (fun _ => rfl) rfl (by decide) ?_; intro v A c) | (refine s_mkmapB ?_; intro b) | (refine s_mkmapI ?_; intro b) | (refine s_lit [] rfl (by decide) rfl ?_; intro b) | (refine s_lit [_] rfl (by decide) rfl ?_; intro b) | (refine s_lit [_, _] rfl (by decide) rfl ?_; intro b) | (refine s_lit [_, _, _] rfl (by decide) rfl ?_; intro b)))
  · have h0 : s.xs = [] := by
      rcases hs.h.1.2.2.2 with h | ⟨a, h, _⟩
      · exact List.eq_nil_of_length_eq_zero h
      · rw [h] at hc; cases hc
    refine e_done rfl rfl _ (PSub.nilOwn 55) ⟨none, 0, by rw [h0]; rfl, by rw [h0]; rfl⟩
  · exact e_done rfl rfl _ (PSub.eq (by rw [Nat.zero_add, List.nil_append])) ⟨A, c, congrArg (fun l => Value.slice A l c) (Nat.zero_add _), rfl⟩
theorem clone_Ins_spec (s : Sl SsaIns) (hl : s.xs.length ≤ 100000) : Spec Try.prog 49 [.slice s.A s.xs.length s.c] [] (fun ok w => RdD ok w s) fun v L' => ∃ A c, v = .slice A s.xs.length c ∧ L' = [own 60 A s.xs.length c s.xs] := by
  refine spec_of Try.func49 rfl rfl fun w0 f0 hs => ?_
  (repeat' (first | refine s_move ?_ | refine s_assign ?_ | refine s_nil ?_ | (refine k_C ?_; first | refine s_seq ?_ | refine s_region ?_ | refine s_stillP foI rfl (by kernel_rfl) ?_ | refine s_skip ?_ | refine s_block ?_ | refine s_exit ?_ | refine s_ret ?_ | refine s_ift rfl ?_ | refine s_iff rfl ?_ | (refine s_ifd rfl ?_ ?_ <;> intro hc <;> try (exfalso; omega)) | (refine s_ifn rfl ?_ ?_ <;> intro hc <;> try (exfalso; omega)) | (refine s_if rfl ?_ ?_ <;> intro hc)) | (refine k_E ?_; first | refine e_seq ?_ | refine e_seq_ret ?_ | refine e_seq_exit ?_ | refine e_bk_exit ?_ | refine e_bk_ret ?_ | refine e_bk ?_ | refine e_bk_out rfl ?_ | refine e_lp_ret ?_ | refine e_lp_exit ?_ | refine e_ct_ret ?_ | refine e_ct_exit ?_) | (refine k_load ?_; first | refine s_ldB rfl rfl ?_ | refine s_ldBW rfl rfl ?_ | refine s_ldBA rfl (by decide) ?_ | refine s_ldRB rfl rfl ?_ | refine s_ldRBA rfl (by decide) ?_ | refine s_ld rfl om rfl ?_ | refine s_ldF rfl om rfl ?_ | refine s_ldA rfl om rfl ?_ | refine s_ldFA rfl om (by decide) ?_ | refine s_ldR rfl om rfl ?_ | refine s_ldS rfl rfl om rfl ?_ | refine s_ldSF rfl rfl om rfl ?_ | refine s_ldSA rfl rfl om rfl ?_ | refine s_ldSFA rfl rfl om (by decide) ?_) | (refine k_bin ?_; first | refine s_lss rfl rfl ?_ | refine s_add1 rfl rfl om ?_ | refine s_add64 rfl rfl om ?_ | refine s_sub64 rfl rfl om ?_ | refine s_eql rfl rfl ?_ | refine s_neq rfl rfl ?_ | refine s_gtr rfl rfl ?_ | refine s_geq rfl rfl ?_ | refine s_leq rfl rfl ?_ | refine s_beq rfl rfl ?_ | refine s_pnil rfl rfl ?_ | refine s_snil rfl rfl ?_ | refine s_bne rfl rfl ?_ | refine s_rem rfl rfl om ?_ | refine s_mul64 rfl rfl om ?_ | refine s_xor1 rfl rfl om ?_ | refine s_xor1I rfl rfl om om ?_ | refine s_shr rfl rfl om ?_ | refine s_shl1 rfl rfl om ?_ | refine s_and1 rfl rfl om ?_ | refine s_orN rfl rfl om om ?_) | (refine k_fld ?_; first | refine s_fld rfl ?_ | refine s_fldB rfl ?_) | (refine k_idx ?_; first | refine s_idx rfl rfl om ?_ | refine s_idxI rfl rfl om om ?_ | refine s_idxR rfl rfl om ?_ | refine s_idxRI rfl rfl om om ?_ | refine s_idxS rfl rfl om ?_ | refine s_idxSI rfl rfl om om ?_ | refine s_idxV (j := 0) rfl rfl (by decide) ?_ | refine s_idxV rfl rfl (by decide) ?_) | (refine k_store ?_; first | refine s_stW _ rfl rfl ?_ | refine s_st _ rfl rfl om ?_ | refine s_stB _ rfl rfl rfl (by decide) ?_) | (refine k_call ?_; first | refine s_len rfl ?_ | refine s_cap rfl ?_ | refine s_min rfl rfl ?_ | refine s_max rfl rfl ?_ | (refine s_appS rfl rfl om ?_; intro A c) | (refine s_appO rfl rfl om ?_; intro A c)) | (refine k_guard ?_; first | refine s_on rfl rfl ?_ | refine s_off rfl rfl rfl rfl ?_ | refine s_offU rfl rfl rfl rfl ?_ | (refine s_casesd rfl rfl ?_ ?_ <;> intro hc <;> try (exfalso; omega)) | (refine s_casesn rfl rfl ?_ ?_ <;> intro hc <;> try (exfalso; omega)) | (refine s_cases rfl rfl ?_ ?_ <;> intro hc)) | refine s_func (v1 := []) (v2 := [.pointer _]) rfl rfl ?_ | refine s_func (v1 := []) (v2 := []) rfl rfl ?_ | refine s_putW (yv := true) rfl rfl rfl trivial om ?_ | refine s_putIW (yv := true) rfl rfl rfl trivial om ?_ | refine s_lookW rfl rfl ?_ | refine s_lookSW rfl rfl ?_ | (refine s_alloc ?_; intro b) | (refine s_box _ rfl ?_; intro b) | (refine s_make rfl rfl om ?_; intro b) | (refine s_makeI rfl rfl om om ?_; intro b) | refine s_cutH rfl rfl om om ?_ | (refine s_cutL rfl rfl om ?_; intro A) | refine s_not rfl ?_ | refine s_pick rfl ?_ | refine s_convU rfl om ?_ | refine s_convUI rfl om om ?_ | refine s_extract rfl rfl ?_ | refine s_nilck rfl ?_ | (refine s_app1 _ (fun _ => rfl) rfl om ?_; intro v A c) | (refine s_app1N _ (fun _ => rfl) rfl (by decide) ?_; intro v A c) | (refine s_mkmapB ?_; intro b) | (refine s_mkmapI ?_; intro b) | (refine s_lit [] rfl (by decide) rfl ?_; intro b) | (refine s_lit [_] rfl (by decide) rfl ?_; intro b) | (refine s_lit [_, _] rfl (by decide) rfl ?_; intro b) | (refine s_lit [_, _, _] rfl (by decide) rfl ?_; intro b)))
  · have h0 : s.xs = [] := by
      rcases hs.h.1.2.2.2 with h | ⟨a, h, _⟩
      · exact List.eq_nil_of_length_eq_zero h
      · rw [h] at hc; cases hc
    refine e_done rfl rfl _ (PSub.nilOwn 60) ⟨none, 0, by rw [h0]; rfl, by rw [h0]; rfl⟩
  · exact e_done rfl rfl _ (PSub.eq (by rw [Nat.zero_add, List.nil_append])) ⟨A, c, congrArg (fun l => Value.slice A l c) (Nat.zero_add _), rfl⟩
theorem clone_Edge_spec (s : Sl SsaEdge) (hl : s.xs.length ≤ 100000) : Spec Try.prog 50 [.slice s.A s.xs.length s.c] [] (fun ok w => RdD ok w s) fun v L' => ∃ A c, v = .slice A s.xs.length c ∧ L' = [own 74 A s.xs.length c s.xs] := by
  refine spec_of Try.func50 rfl rfl fun w0 f0 hs => ?_
  (repeat' (first | refine s_move ?_ | refine s_assign ?_ | refine s_nil ?_ | (refine k_C ?_; first | refine s_seq ?_ | refine s_region ?_ | refine s_stillP foI rfl (by kernel_rfl) ?_ | refine s_skip ?_ | refine s_block ?_ | refine s_exit ?_ | refine s_ret ?_ | refine s_ift rfl ?_ | refine s_iff rfl ?_ | (refine s_ifd rfl ?_ ?_ <;> intro hc <;> try (exfalso; omega)) | (refine s_ifn rfl ?_ ?_ <;> intro hc <;> try (exfalso; omega)) | (refine s_if rfl ?_ ?_ <;> intro hc)) | (refine k_E ?_; first | refine e_seq ?_ | refine e_seq_ret ?_ | refine e_seq_exit ?_ | refine e_bk_exit ?_ | refine e_bk_ret ?_ | refine e_bk ?_ | refine e_bk_out rfl ?_ | refine e_lp_ret ?_ | refine e_lp_exit ?_ | refine e_ct_ret ?_ | refine e_ct_exit ?_) | (refine k_load ?_; first | refine s_ldB rfl rfl ?_ | refine s_ldBW rfl rfl ?_ | refine s_ldBA rfl (by decide) ?_ | refine s_ldRB rfl rfl ?_ | refine s_ldRBA rfl (by decide) ?_ | refine s_ld rfl om rfl ?_ | refine s_ldF rfl om rfl ?_ | refine s_ldA rfl om rfl ?_ | refine s_ldFA rfl om (by decide) ?_ | refine s_ldR rfl om rfl ?_ | refine s_ldS rfl rfl om rfl ?_ | refine s_ldSF rfl rfl om rfl ?_ | refine s_ldSA rfl rfl om rfl ?_ | refine s_ldSFA rfl rfl om (by decide) ?_) | (refine k_bin ?_; first | refine s_lss rfl rfl ?_ | refine s_add1 rfl rfl om ?_ | refine s_add64 rfl rfl om ?_ | refine s_sub64 rfl rfl om ?_ | refine s_eql rfl rfl ?_ | refine s_neq rfl rfl ?_ | refine s_gtr rfl rfl ?_ | refine s_geq rfl rfl ?_ | refine s_leq rfl rfl ?_ | refine s_beq rfl rfl ?_ | refine s_pnil rfl rfl ?_ | refine s_snil rfl rfl ?_ | refine s_bne rfl rfl ?_ | refine s_rem rfl rfl om ?_ | refine s_mul64 rfl rfl om ?_ | refine s_xor1 rfl rfl om ?_ | refine s_xor1I rfl rfl om om ?_ | refine s_shr rfl rfl om ?_ | refine s_shl1 rfl rfl om ?_ | refine s_and1 rfl rfl om ?_ | refine s_orN rfl rfl om om ?_) | (refine k_fld ?_; first | refine s_fld rfl ?_ | refine s_fldB rfl ?_) | (refine k_idx ?_; first | refine s_idx rfl rfl om ?_ | refine s_idxI rfl rfl om om ?_ | refine s_idxR rfl rfl om ?_ | refine s_idxRI rfl rfl om om ?_ | refine s_idxS rfl rfl om ?_ | refine s_idxSI rfl rfl om om ?_ | refine s_idxV (j := 0) rfl rfl (by decide) ?_ | refine s_idxV rfl rfl (by decide) ?_) | (refine k_store ?_; first | refine s_stW _ rfl rfl ?_ | refine s_st _ rfl rfl om ?_ | refine s_stB _ rfl rfl rfl (by decide) ?_) | (refine k_call ?_; first | refine s_len rfl ?_ | refine s_cap rfl ?_ | refine s_min rfl rfl ?_ | refine s_max rfl rfl ?_ | (refine s_appS rfl rfl om ?_; intro A c) | (refine s_appO rfl rfl om ?_; intro A c)) | (refine k_guard ?_; first | refine s_on rfl rfl ?_ | refine s_off rfl rfl rfl rfl ?_ | refine s_offU rfl rfl rfl rfl ?_ | (refine s_casesd rfl rfl ?_ ?_ <;> intro hc <;> try (exfalso; omega)) | (refine s_casesn rfl rfl ?_ ?_ <;> intro hc <;> try (exfalso; omega)) | (refine s_cases rfl rfl ?_ ?_ <;> intro hc)) | refine s_func (v1 := []) (v2 := [.pointer _]) rfl rfl ?_ | refine s_func (v1 := []) (v2 := []) rfl rfl ?_ | refine s_putW (yv := true) rfl rfl rfl trivial om ?_ | refine s_putIW (yv := true) rfl rfl rfl trivial om ?_ | refine s_lookW rfl rfl ?_ | refine s_lookSW rfl rfl ?_ | (refine s_alloc ?_; intro b) | (refine s_box _ rfl ?_; intro b) | (refine s_make rfl rfl om ?_; intro b) | (refine s_makeI rfl rfl om om ?_; intro b) | refine s_cutH rfl rfl om om ?_ | (refine s_cutL rfl rfl om ?_; intro A) | refine s_not rfl ?_ | refine s_pick rfl ?_ | refine s_convU rfl om ?_ | refine s_convUI rfl om om ?_ | refine s_extract rfl rfl ?_ | refine s_nilck rfl ?_ | (refine s_app1 _ (fun _ => rfl) rfl om ?_; intro v A c) | (refine s_app1N _ (fun _ => rfl) rfl (by decide) ?_; intro v A c) | (refine s_mkmapB ?_; intro b) | (refine s_mkmapI ?_; intro b) | (refine s_lit [] rfl (by decide) rfl ?_; intro b) | (refine s_lit [_] rfl (by decide) rfl ?_; intro b) | (refine s_lit [_, _] rfl (by decide) rfl ?_; intro b) | (refine s_lit [_, _, _] rfl (by decide) rfl ?_; intro b)))
  · have h0 : s.xs = [] := by
      rcases hs.h.1.2.2.2 with h | ⟨a, h, _⟩
      · exact List.eq_nil_of_length_eq_zero h
      · rw [h] at hc; cases hc
    refine e_done rfl rfl _ (PSub.nilOwn 74) ⟨none, 0, by rw [h0]; rfl, by rw [h0]; rfl⟩
  · exact e_done rfl rfl _ (PSub.eq (by rw [Nat.zero_add, List.nil_append])) ⟨A, c, congrArg (fun l => Value.slice A l c) (Nat.zero_add _), rfl⟩

noncomputable def rowP (s : Sl Int) : HP := own 3 s.A s.xs.length s.c s.xs
noncomputable def insZ (s : Sl SsaIns) : HP := star [own 60 s.A s.xs.length s.c s.xs, star (s.xs.map fun i => rowP i.fArgs)]
noncomputable def waysP (s : Sl SsaEdge) : HP := star [own 74 s.A s.xs.length s.c s.xs, star (s.xs.map fun i => rowP i.fArgs)]
noncomputable def blkP (b : SsaBlock) : HP := star [rowP b.fParams, insZ b.fIns, waysP b.fEnd.fWays]
noncomputable def funP (f : SsaFunc) : HP := star [own 55 f.fBlocks.A f.fBlocks.xs.length f.fBlocks.c f.fBlocks.xs, star (f.fBlocks.xs.map blkP)]
noncomputable def progP (p : SsaProg) : HP := star [own 66 p.fArrays.A p.fArrays.xs.length p.fArrays.c p.fArrays.xs, own 46 p.fFuncs.A p.fFuncs.xs.length p.fFuncs.c p.fFuncs.xs, star (p.fFuncs.xs.map funP)]
/-- All numbers of a part fit their words. -/
def fitR (s : Sl Int) : Prop := ∀ x ∈ s.xs, wfi x
variable {ok : FP} {w : World} {g : FP}
theorem rowP.rd {s : Sl Int} (h : (rowP s).sat w g) (hok : ∀ b, g b → ok b) (hf : fitR s) : RdD ok w s := own_rd h hok hf

def eR (s : Sl Int) : Sl Int := ⟨none, 0, s.xs⟩
def eI (i : SsaIns) : SsaIns := { i with fArgs := eR i.fArgs }
def eW (e : SsaEdge) : SsaEdge := { e with fArgs := eR e.fArgs }
def eN (e : SsaEnd) : SsaEnd := { e with fWays := ⟨none, 0, e.fWays.xs.map eW⟩ }
def eB (b : SsaBlock) : SsaBlock := ⟨eR b.fParams, ⟨none, 0, b.fIns.xs.map eI⟩, eN b.fEnd⟩
def eF (f : SsaFunc) : SsaFunc := ⟨f.fName, ⟨none, 0, f.fBlocks.xs.map eB⟩⟩
def eP (p : SsaProg) : SsaProg := ⟨⟨none, 0, p.fArrays.xs⟩, ⟨none, 0, p.fFuncs.xs.map eF⟩, p.fMain⟩
theorem map_mate {α β : Type} {e : α → β} {l l' : List α} (h : l'.map e = l.map e) {x : α} (hx : x ∈ l') : ∃ y ∈ l, e x = e y := by
  obtain ⟨k, hk, rfl⟩ := List.getElem_of_mem hx
  have hl : l'.length = l.length := by have := congrArg List.length h; simpa using this
  refine ⟨l[k]'(by omega), List.getElem_mem _, ?_⟩
  have h1 := congrArg (fun q => q[k]?) h
  simp only [List.getElem?_map, List.getElem?_eq_getElem hk, List.getElem?_eq_getElem (show k < l.length by omega), Option.map_some, Option.some.injEq] at h1
  exact h1
section
variable {ok ok' : FP} {w w' : World} {g : FP}
theorem eR.rd {s s' : Sl Int} (h : (rowP s').sat w g) (hok : ∀ b, g b → ok b) (he : eR s' = eR s) (hr : Dp.rd ok' w' s) : Dp.rd ok w s' := by
  have e : s'.xs = s.xs := by have q := congrArg Sl.xs he; exact q
  exact (rowP.rd h hok fun x hx => hr.2 x (e ▸ hx)).h
theorem eI.rd {s s' : SsaIns} (ha : Dp.rd ok w s'.fArgs) (he : eI s' = eI s) (hr : Dp.rd ok' w' s) : Dp.rd ok w s' := by
  obtain ⟨h1, h2, h3, h4, h5, h6, h7⟩ := hr
  have e1 : s'.fOp = s.fOp := by have q := congrArg SsaIns.fOp he; exact q
  have e2 : s'.fDst = s.fDst := by have q := congrArg SsaIns.fDst he; exact q
  have e4 : s'.fNum = s.fNum := by have q := congrArg SsaIns.fNum he; exact q
  have e5 : s'.fBin = s.fBin := by have q := congrArg SsaIns.fBin he; exact q
  have e6 : s'.fArr = s.fArr := by have q := congrArg SsaIns.fArr he; exact q
  have e7 : s'.fFn = s.fFn := by have q := congrArg SsaIns.fFn he; exact q
  refine ⟨?_, ?_, ha, ?_, ?_, ?_, ?_⟩
  · rw [e1]; exact h1
  · rw [e2]; exact h2
  · rw [e4]; exact h4
  · rw [e5]; exact h5
  · rw [e6]; exact h6
  · rw [e7]; exact h7
theorem eW.rd {s s' : SsaEdge} (ha : Dp.rd ok w s'.fArgs) (he : eW s' = eW s) (hr : Dp.rd ok' w' s) : Dp.rd ok w s' := by
  have e1 : s'.fTo = s.fTo := by have q := congrArg SsaEdge.fTo he; exact q
  exact ⟨by rw [e1]; exact hr.1, ha⟩
theorem insZ.rd {s s' : Sl SsaIns} (h : (insZ s').sat w g) (hok : ∀ b, g b → ok b) (he : s'.xs.map eI = s.xs.map eI) (hr : Dp.rd ok' w' s) : Dp.rd ok w s' := by
  obtain ⟨g0, h0, k0⟩ := star_at h (i := 0) rfl
  obtain ⟨g1, h1, k1⟩ := star_at h (i := 1) rfl
  refine (own_rd h0 (fun b hb => hok b (k0 b hb)) fun x hx => ?_).h
  obtain ⟨g2, h2, k2⟩ := star_mem h1 hx
  obtain ⟨y, hy, e⟩ := map_mate he hx
  have hy2 := hr.2 y hy
  exact eI.rd (eR.rd h2 (fun b hb => hok b (k1 b (k2 b hb))) (by have q := congrArg SsaIns.fArgs e; exact q) hy2.2.2.1) e hy2
theorem waysP.rd {s s' : Sl SsaEdge} (h : (waysP s').sat w g) (hok : ∀ b, g b → ok b) (he : s'.xs.map eW = s.xs.map eW) (hr : Dp.rd ok' w' s) : Dp.rd ok w s' := by
  obtain ⟨g0, h0, k0⟩ := star_at h (i := 0) rfl
  obtain ⟨g1, h1, k1⟩ := star_at h (i := 1) rfl
  refine (own_rd h0 (fun b hb => hok b (k0 b hb)) fun x hx => ?_).h
  obtain ⟨g2, h2, k2⟩ := star_mem h1 hx
  obtain ⟨y, hy, e⟩ := map_mate he hx
  have hy2 := hr.2 y hy
  exact eW.rd (eR.rd h2 (fun b hb => hok b (k1 b (k2 b hb))) (by have q := congrArg SsaEdge.fArgs e; exact q) hy2.2) e hy2
theorem blkP.rd {s s' : SsaBlock} (h : (blkP s').sat w g) (hok : ∀ b, g b → ok b) (he : eB s' = eB s) (hr : Dp.rd ok' w' s) : Dp.rd ok w s' := by
  obtain ⟨g0, h0, k0⟩ := star_at h (i := 0) rfl
  obtain ⟨g1, h1, k1⟩ := star_at h (i := 1) rfl
  obtain ⟨g2, h2, k2⟩ := star_at h (i := 2) rfl
  obtain ⟨r1, r2, r3, r4, r5, r6⟩ := hr
  have e1 : s'.fEnd.fKind = s.fEnd.fKind := by have q := congrArg (fun b => b.fEnd.fKind) he; exact q
  have e2 : s'.fEnd.fVal = s.fEnd.fVal := by have q := congrArg (fun b => b.fEnd.fVal) he; exact q
  have e3 : s'.fEnd.fTrap = s.fEnd.fTrap := by have q := congrArg (fun b => b.fEnd.fTrap) he; exact q
  refine ⟨eR.rd h0 (fun b hb => hok b (k0 b hb)) (by have q := congrArg SsaBlock.fParams he; exact q) r1, insZ.rd h1 (fun b hb => hok b (k1 b hb)) (by have q := congrArg (fun b => b.fIns.xs) he; exact q) r2, ?_, ?_, waysP.rd h2 (fun b hb => hok b (k2 b hb)) (by have q := congrArg (fun b => b.fEnd.fWays.xs) he; exact q) r5, ?_⟩
  · rw [e1]; exact r3
  · rw [e2]; exact r4
  · rw [e3]; exact r6
theorem funP.rd {s s' : SsaFunc} (h : (funP s').sat w g) (hok : ∀ b, g b → ok b) (hn : Dp.rd ok w s'.fName) (he : eF s' = eF s) (hr : Dp.rd ok' w' s) : Dp.rd ok w s' := by
  obtain ⟨g0, h0, k0⟩ := star_at h (i := 0) rfl
  obtain ⟨g1, h1, k1⟩ := star_at h (i := 1) rfl
  refine ⟨hn, (own_rd h0 (fun b hb => hok b (k0 b hb)) fun x hx => ?_).h⟩
  obtain ⟨g2, h2, k2⟩ := star_mem h1 hx
  obtain ⟨y, hy, e⟩ := map_mate (by have q := congrArg (fun f => f.fBlocks.xs) he; exact q) hx
  exact blkP.rd h2 (fun b hb => hok b (k1 b (k2 b hb))) e (hr.2.2 y hy)
end

theorem nth_mapE {α β : Type} [Enc α] [Enc β] {e : α → β} (h0 : e Enc.dflt = Enc.dflt) {l : List α} {i : Nat} : nth (l.map e) i = e (nth l i) := by
  by_cases h : i < l.length
  · rw [nth_get h, nth_get (by simpa using h)]; simp
  · unfold nth
    rw [List.getD_eq_getElem?_getD, List.getD_eq_getElem?_getD, List.getElem?_eq_none (by simpa using h), List.getElem?_eq_none (by simpa using h)]
    exact h0.symm
theorem nthB {l : List SsaBlock} {i : Nat} : nth (l.map eB) i = eB (nth l i) := nth_mapE (e := eB) rfl
theorem nthF {l : List SsaFunc} {i : Nat} : nth (l.map eF) i = eF (nth l i) := nth_mapE (e := eF) rfl
theorem dstsE {l : List SsaIns} : dstsB7 (l.map eI) = dstsB7 l := by unfold dstsB7; rw [List.map_map]; rfl
theorem madeE {b : SsaBlock} : madeB (eB b) = madeB b := by
  show b.fParams.xs ++ dstsB7 (b.fIns.xs.map eI) = _
  rw [dstsE]; rfl
theorem madeAllE {l : List SsaBlock} : madeAll (l.map eB) = madeAll l := by
  unfold madeAll
  rw [List.flatMap_map]
  simp only [madeE]
theorem rightE {p : SsaProg} {i : SsaIns} : rightB (eP p) (eI i) = rightB p i := by
  unfold rightB
  have h1 : nth (eP p).fFuncs.xs (eI i).fFn.toNat = eF (nth p.fFuncs.xs i.fFn.toNat) := nthF
  have h2 : nth (eF (nth p.fFuncs.xs i.fFn.toNat)).fBlocks.xs 0 = eB (nth (nth p.fFuncs.xs i.fFn.toNat).fBlocks.xs 0) := nthB
  have h3 : (eP p).fFuncs.xs.length = p.fFuncs.xs.length := by simp [eP]
  have h4 : (eF (nth p.fFuncs.xs i.fFn.toNat)).fBlocks.xs.length = (nth p.fFuncs.xs i.fFn.toNat).fBlocks.xs.length := by simp [eF]
  rw [h1, h2, h3, h4]
  rfl
theorem usesE {is : List SsaIns} : ∀ {l : List Int}, usesI l (is.map eI) = usesI l is := by
  induction is with
  | nil => intro l; rfl
  | cons i is ih => intro l; simp only [List.map_cons, usesI, ih]; rfl
theorem usedE {l : List Int} {b : SsaBlock} : usedB l (eB b) = usedB l b := by
  unfold usedB
  rw [madeE]
  show (usesI (l ++ b.fParams.xs) (b.fIns.xs.map eI) && (b.fEnd.fWays.xs.map eW).all _ && _) = _
  rw [usesE, List.all_map]
  rfl
theorem onceE {f : SsaFunc} : onceB (eF f) = onceB f := by
  unfold onceB
  show ((madeAll (f.fBlocks.xs.map eB)).all _ && decide (madeAll (f.fBlocks.xs.map eB)).Nodup) = _
  rw [madeAllE]
theorem wayE {f : SsaFunc} {w : SsaEdge} : wayB (eF f) (eW w) = wayB f w := by
  unfold wayB
  have h1 : nth (eF f).fBlocks.xs (eW w).fTo.toNat = eB (nth f.fBlocks.xs w.fTo.toNat) := nthB
  have h3 : (eF f).fBlocks.xs.length = f.fBlocks.xs.length := by simp [eF]
  rw [h1, h3]; rfl
theorem endsE {f : SsaFunc} {e : SsaEnd} : endsB (eF f) (eN e) = endsB f e := by
  unfold endsB
  have h1 : endB (eN e) = endB e := by
    unfold endB
    have : endP (eN e) = endP e := by
      unfold endP
      have : (eN e).fWays.xs.length = e.fWays.xs.length := by simp [eN]
      rw [this]; rfl
    simp only [this]
  rw [h1]
  show (_ && (e.fWays.xs.map eW).all _) = _
  rw [List.all_map]
  congr 2
  funext w
  exact wayE
theorem goE {n : Nat} {ws : List SsaEdge} : ∀ {out : List Bool} {todo : List Int}, goW7 n (ws.map eW) out todo = goW7 n ws out todo := by
  induction ws with
  | nil => intro _ _; rfl
  | cons w ws ih =>
    intro out todo
    simp only [List.map_cons, goW7, ih]
    rfl
theorem lenE {f : SsaFunc} : (eF f).fBlocks.xs.length = f.fBlocks.xs.length := by simp [eF]
theorem blkAt {f : SsaFunc} {i : Nat} : nth (eF f).fBlocks.xs i = eB (nth f.fBlocks.xs i) := nthB
theorem reachLE {f : SsaFunc} : ∀ {k : Nat} {out : List Bool} {todo : List Int}, reachL7 (eF f) k out todo = reachL7 f k out todo := by
  intro k
  induction k with
  | zero => intro out todo; cases todo <;> rfl
  | succ k ih =>
    intro out todo
    cases todo with
    | nil => rfl
    | cons t todo =>
      simp only [reachL7, lenE, blkAt, ih]
      have : (eB (nth f.fBlocks.xs t.toNat)).fEnd.fWays.xs = (nth f.fBlocks.xs t.toNat).fEnd.fWays.xs.map eW := rfl
      rw [this, goE]
theorem reachE {f : SsaFunc} : reachB7 (eF f) = reachB7 f := by unfold reachB7; rw [lenE, reachLE]
theorem waysE {q : Nat} {ws : List SsaEdge} : ∀ {s : Bool × Kn7}, ways7 q (ws.map eW) s = ways7 q ws s := by
  induction ws with
  | nil => intro _; rfl
  | cons w ws ih => intro s; simp only [List.map_cons, ways7, ih]; rfl
theorem blk7E {f : SsaFunc} {r : List Bool} {n : Nat} {s : Bool × Kn7} : blk7 (eF f) r n s = blk7 f r n s := by
  unfold blk7
  rw [blkAt, madeE]
  have : (eB (nth f.fBlocks.xs n)).fEnd.fWays.xs = (nth f.fBlocks.xs n).fEnd.fWays.xs.map eW := rfl
  simp only [this, waysE]
theorem round7E {f : SsaFunc} {r : List Bool} : ∀ {n : Nat} {s : Bool × Kn7}, round7 (eF f) r n s = round7 f r n s
  | 0, _ => rfl
  | n + 1, s => by simp only [round7, blk7E, round7E (n := n)]
theorem fix7E {f : SsaFunc} {r : List Bool} : ∀ {k : Nat} {s : Kn7}, fix7 (eF f) r k s = fix7 f r k s
  | 0, _ => rfl
  | k + 1, s => by simp only [fix7, lenE, round7E, fix7E (k := k)]
theorem known7E {f : SsaFunc} : known7 (eF f) = known7 f := by
  unfold known7
  rw [lenE, reachE, fix7E]
  have : madeAll (eF f).fBlocks.xs = madeAll f.fBlocks.xs := madeAllE
  rw [this]
theorem usedAtE {f : SsaFunc} {s : Kn7} {n : Nat} : usedAt (eF f) s n = usedAt f s n := by
  unfold usedAt
  rw [blkAt]
  simp only [usedE]
theorem blkBE {p : SsaProg} {f : SsaFunc} {b : SsaBlock} : blkB (eP p) (eF f) (eB b) = blkB p f b := by
  unfold blkB
  show (endsB (eF f) (eN b.fEnd) && (b.fIns.xs.map eI).all (rightB (eP p))) = _
  rw [endsE, List.all_map]
  congr 2
  funext i
  exact rightE
theorem fnBE {p : SsaProg} {f : SsaFunc} : fnB (eP p) (eF f) = fnB p f := by
  unfold fnB
  rw [onceE, known7E, lenE, blkAt]
  have h1 : (eF f).fBlocks.xs.all (blkB (eP p) (eF f)) = f.fBlocks.xs.all (blkB p f) := by
    show (f.fBlocks.xs.map eB).all _ = _
    rw [List.all_map]
    congr 1
    funext b
    exact blkBE
  have h2 : usedAt (eF f) (known7 f) = usedAt f (known7 f) := by funext n; exact usedAtE
  rw [h1, h2]
  rfl
theorem checkE {p : SsaProg} : checkB (eP p) = checkB p := by
  unfold checkB
  have h1 : mainB (eP p) = mainB p := by
    unfold mainB
    have h1 : nth (eP p).fFuncs.xs (eP p).fMain.toNat = eF (nth p.fFuncs.xs p.fMain.toNat) := nthF
    have h3 : (eP p).fFuncs.xs.length = p.fFuncs.xs.length := by simp [eP]
    rw [h1, blkAt, h3]; rfl
  have h2 : (eP p).fFuncs.xs.all (fnB (eP p)) = p.fFuncs.xs.all (fnB p) := by
    show (p.fFuncs.xs.map eF).all _ = _
    rw [List.all_map]
    congr 1
    funext f
    exact fnBE
  rw [h1, h2]
  rfl
/-- A copy is told as what it is a copy of. -/
theorem check_copy {p p' : SsaProg} (h : eP p' = eP p) : checkB p' = checkB p := by rw [← checkE, h, checkE]
end Go.Proofs.Ytomhieglgfjloaa
