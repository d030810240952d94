/- Layer 8: the law's small parts, walked. -/
import Derived.Test.YtoknjpmlloikhaaR11
import Derived.Test.YtoknjpmlloikhaaA21
namespace Go.Proofs.Ytoknjpmlloikhaa
set_option linter.unusedVariables false
set_option linter.unusedSimpArgs false
open Go Go.RowKit

theorem few08_spec (ins : Sl (Sl Int)) : Spec Try.prog 9 [.slice ins.A ins.xs.length ins.c] [] (fun ok w => RdD ok w ins) fun r L' => ∃ b, r = .bool b ∧ L' = [] ∧ (b = true → ins.xs.length ≤ 20) := by
  refine spec_of Try.func9 rfl rfl fun w0 f0 hR => ?_
  (repeat' (first | refine s_move ?_ | refine s_assign ?_ | refine s_nil ?_ | (refine k_C ?_; first | refine s_seq ?_ | refine s_region ?_ | refine s_skip ?_ | refine s_block ?_ | refine s_ret ?_ | (refine s_ifd rfl ?_ ?_ <;> intro hc <;> try (exfalso; omega))) | (refine k_E ?_; first | refine e_seq ?_ | refine e_seq_ret ?_) | (refine k_bin ?_; refine s_gtr rfl rfl ?_) | (refine k_call ?_; refine s_len rfl ?_)))
  · exact e_done rfl rfl [] (PSub.take [] rfl) ⟨false, rfl, rfl, fun h => by cases h⟩
  refine s_loop (σ := Nat) (fun k => [(8, .slice ins.A ins.xs.length ins.c), (9, .int .i64 ins.xs.length), (10, .int .i64 (k : Nat))]) (fun _ => []) (fun k => k ≤ ins.xs.length) (fun k => ins.xs.length - k) 0 (by repeat (first | exact trivial | refine ⟨rfl, ?_⟩)) (Nat.zero_le _) (PSub.take [] rfl) ?_
  rintro g k hk
  (repeat' (first | refine s_nil ?_ | (refine k_C ?_; first | refine s_seq ?_ | refine s_region ?_) | (refine k_E ?_; refine e_seq ?_) | (refine k_bin ?_; refine s_lss rfl rfl ?_)))
  (first | (refine k_C ?_; (refine s_ifd rfl ?_ ?_ <;> intro hc <;> try (exfalso; omega))))
  · have hkl : k < ins.xs.length := by omega
    (repeat' (first | refine s_move ?_ | refine s_assign ?_ | refine s_nil ?_ | (refine k_C ?_; first | refine s_seq ?_ | refine s_region ?_ | refine s_skip ?_ | refine s_block ?_ | refine s_ret ?_ | (refine s_ifd rfl ?_ ?_ <;> intro hc <;> try (exfalso; omega))) | (refine k_E ?_; first | refine e_seq ?_ | refine e_seq_ret ?_ | refine e_bk_ret ?_ | refine e_bk ?_ | refine e_lp_ret ?_) | (refine k_load ?_; refine s_ldS rfl rfl om rfl ?_) | (refine k_bin ?_; first | refine s_add1 rfl rfl om ?_ | refine s_gtr rfl rfl ?_) | (refine k_idx ?_; refine s_idxS rfl rfl om ?_) | (refine k_call ?_; refine s_len rfl ?_)))
    · exact e_done rfl rfl [] (PSub.take [] rfl) ⟨false, rfl, rfl, fun h => by cases h⟩
    · exact e_lp (k + 1) (by repeat (first | exact trivial | refine ⟨rfl, ?_⟩)) (by omega) (by show _ - _ < _ - _; omega) (PSub.take [] rfl)
  (repeat' (first | refine s_assign ?_ | refine s_nil ?_ | (refine k_C ?_; first | refine s_seq ?_ | refine s_region ?_ | refine s_exit ?_ | refine s_ret ?_) | (refine k_E ?_; first | refine e_seq ?_ | refine e_seq_exit ?_ | refine e_bk_exit ?_ | refine e_lp_exit ?_)))
  exact e_done rfl rfl [] (PSub.take [] rfl) ⟨true, rfl, rfl, fun _ => by omega⟩
theorem ok08_spec (p : SsaProg) : Spec Try.prog 12 [.agg (Enc.enc p).toArray] [] (fun ok w => RdD ok w p) fun r L' => ∃ b, r = .bool b ∧ L' = [] ∧ (b = true → FewPr p ∧ checkB p = true) := by
  refine spec_of Try.func12 rfl rfl fun w0 f0 hR => ?_
  (repeat' (first | refine s_assign ?_ | refine s_nil ?_ | (refine k_C ?_; first | refine s_seq ?_ | refine s_region ?_) | (refine k_E ?_; refine e_seq ?_) | (refine k_load ?_; refine s_ldBW rfl rfl ?_) | (refine s_box _ rfl ?_; intro b)))
  refine s_call0 (few_spec p) rfl (fun w1 H => H.rdD (by infer_instance)) ?_
  rintro r L' ⟨fw, rfl, rfl, hfw⟩
  cases fw with
  | false =>
    (repeat' (first | refine s_move ?_ | refine s_assign ?_ | refine s_nil ?_ | (refine k_C ?_; first | refine s_seq ?_ | refine s_region ?_ | refine s_ret ?_ | refine s_ift rfl ?_) | (refine k_E ?_; first | refine e_seq ?_ | refine e_seq_ret ?_) | (refine k_guard ?_; refine s_off rfl rfl rfl rfl ?_) | refine s_not rfl ?_ | refine s_pick rfl ?_))
    exact e_done rfl rfl [] (PSub.take [] rfl) ⟨false, rfl, rfl, fun h => by cases h⟩
  | true =>
    have hp := hfw rfl
    (repeat' (first | refine s_move ?_ | (refine k_load ?_; refine s_ldBW rfl rfl ?_) | (refine k_guard ?_; refine s_on rfl rfl ?_) | refine s_not rfl ?_))
    refine s_call0 (check_spec p (fewP_pr hp)) rfl (fun w1 H => H.rdD (by infer_instance)) ?_
    rintro r L' ⟨rfl, rfl⟩
    cases hc : checkB p with
    | false =>
      rw [if_neg (by decide)]
      (repeat' (first | refine s_assign ?_ | refine s_nil ?_ | (refine k_C ?_; first | refine s_seq ?_ | refine s_region ?_ | refine s_ret ?_ | refine s_ift rfl ?_) | (refine k_E ?_; first | refine e_seq ?_ | refine e_seq_ret ?_) | (refine k_bin ?_; refine s_neq rfl rfl ?_) | (refine k_guard ?_; refine s_on rfl rfl ?_) | refine s_pick rfl ?_))
      exact e_done rfl rfl [] (PSub.take [] rfl) ⟨false, rfl, rfl, fun h => by cases h⟩
    | true =>
      rw [if_pos rfl]
      have hpa := hp.a
      (repeat' (first | refine s_move ?_ | refine s_nil ?_ | (refine k_C ?_; first | refine s_seq ?_ | refine s_region ?_ | refine s_skip ?_ | refine s_block ?_ | refine s_iff rfl ?_) | (refine k_E ?_; refine e_seq ?_) | (refine k_load ?_; refine s_ldB rfl rfl ?_) | (refine k_bin ?_; refine s_neq rfl rfl ?_) | (refine k_fld ?_; refine s_fldB rfl ?_) | (refine k_call ?_; refine s_len rfl ?_) | (refine k_guard ?_; refine s_on rfl rfl ?_) | refine s_pick rfl ?_))
      obtain ⟨bp, rfl⟩ : ∃ q, q = b := ⟨_, rfl⟩
      refine s_loop (σ := Nat) (fun k => [(14, .slice p.fArrays.A p.fArrays.xs.length p.fArrays.c), (15, .int .i64 p.fArrays.xs.length), (16, .int .i64 (k : Nat))]) (fun _ => []) (fun k => k ≤ p.fArrays.xs.length) (fun k => p.fArrays.xs.length - k) 0 (by repeat (first | exact trivial | refine ⟨rfl, ?_⟩)) (Nat.zero_le _) (PSub.take [] rfl) ?_
      rintro g k hk
      (repeat' (first | refine s_nil ?_ | (refine k_C ?_; first | refine s_seq ?_ | refine s_region ?_) | (refine k_E ?_; refine e_seq ?_) | (refine k_bin ?_; refine s_lss rfl rfl ?_)))
      (first | (refine k_C ?_; (refine s_ifd rfl ?_ ?_ <;> intro hc <;> try (exfalso; omega))))
      · have hkl : k < p.fArrays.xs.length := by omega
        (repeat' (first | refine s_move ?_ | refine s_assign ?_ | refine s_nil ?_ | (refine k_C ?_; first | refine s_seq ?_ | refine s_region ?_ | refine s_skip ?_ | refine s_block ?_ | refine s_ret ?_ | (refine s_ifd rfl ?_ ?_ <;> intro hc <;> try (exfalso; omega))) | (refine k_E ?_; first | refine e_seq ?_ | refine e_seq_ret ?_ | refine e_bk_ret ?_ | refine e_bk ?_ | refine e_lp_ret ?_) | (refine k_load ?_; first | refine s_ldB rfl rfl ?_ | refine s_ldSA rfl rfl om rfl ?_) | (refine k_bin ?_; first | refine s_add1 rfl rfl om ?_ | refine s_gtr rfl rfl ?_) | (refine k_fld ?_; refine s_fldB rfl ?_) | (refine k_idx ?_; refine s_idxS rfl rfl om ?_) | (refine k_store ?_; refine s_stW _ rfl rfl ?_) | (refine s_alloc ?_; intro b)))
        · exact e_done rfl rfl [] (PSub.take [] rfl) ⟨false, rfl, rfl, fun h => by cases h⟩
        · exact e_lp (k + 1) (by repeat (first | exact trivial | refine ⟨rfl, ?_⟩)) (by omega) (by show _ - _ < _ - _; omega) (PSub.take [] rfl)
      (repeat' (first | refine s_assign ?_ | refine s_nil ?_ | (refine k_C ?_; first | refine s_seq ?_ | refine s_region ?_ | refine s_exit ?_ | refine s_ret ?_) | (refine k_E ?_; first | refine e_seq ?_ | refine e_seq_exit ?_ | refine e_bk_exit ?_ | refine e_lp_exit ?_)))
      exact e_done rfl rfl [] (PSub.take [] rfl) ⟨true, rfl, rfl, fun _ => ⟨hp, rfl⟩⟩
instance : EqS Try.prog 86 ApiLeak (by infer_instance) := by
  refine eqS_of (by kernel_rfl) U_86 (by kernel_rfl) ?_ ?_ ?_
  · intro f hf
    rcases List.mem_cons.1 hf with rfl | hf
    · exact ⟨by decide, ⟨_, U_84⟩, T1_84⟩
    rcases List.mem_cons.1 hf with rfl | hf
    · exact ⟨by decide, ⟨_, U_2⟩, T1_2⟩
    rcases List.mem_cons.1 hf with rfl | hf
    · exact ⟨by decide, ⟨_, U_2⟩, T1_2⟩
    cases hf
  · intro a b f hf
    rcases List.mem_cons.1 hf with rfl | hf
    · exact ⟨_, _, _, rfl, rfl⟩
    rcases List.mem_cons.1 hf with rfl | hf
    · exact ⟨_, _, _, rfl, rfl⟩
    rcases List.mem_cons.1 hf with rfl | hf
    · exact ⟨_, _, _, rfl, rfl⟩
    cases hf
  · rintro ⟨a1, a2, a3⟩ ⟨b1, b2, b3⟩ h
    have h1 : a1 = b1 := h _ (List.mem_cons_self ..)
    have h2 : a2 = b2 := h _ (List.mem_cons_of_mem _ (List.mem_cons_self ..))
    have h3 : a3 = b3 := h _ (List.mem_cons_of_mem _ (List.mem_cons_of_mem _ (List.mem_cons_self ..)))
    rw [h1, h2, h3]
theorem leaks_spec (a b : Sl ApiLeak) : Spec Try.prog 15 [.slice a.A a.xs.length a.c, .slice b.A b.xs.length b.c] [] (fun ok w => RdD ok w a ∧ RdD ok w b) fun r L' => ∃ q, r = .bool q ∧ L' = [] ∧ (q = true ↔ a.xs = b.xs) := by
  refine spec_of Try.func15 rfl rfl fun w0 f0 hR => ?_
  obtain ⟨hRa, hRb⟩ := hR
  have hal : a.xs.length ≤ maxLen := by
    have := hRa.h.1
    unfold RdSl RdS at this
    exact Nat.le_trans this.2.1 this.2.2.1
  simp only [maxLen] at hal
  (repeat' (first | refine s_move ?_ | refine s_assign ?_ | refine s_nil ?_ | (refine k_C ?_; first | refine s_seq ?_ | refine s_region ?_ | refine s_skip ?_ | refine s_block ?_ | refine s_ret ?_ | (refine s_ifn rfl ?_ ?_ <;> intro hc <;> try (exfalso; omega))) | (refine k_E ?_; first | refine e_seq ?_ | refine e_seq_ret ?_) | (refine k_bin ?_; refine s_neq rfl rfl ?_) | (refine k_call ?_; refine s_len rfl ?_)))
  · have hne : ¬ a.xs.length = b.xs.length := by omega
    exact e_done rfl rfl [] (PSub.take [] rfl) ⟨false, rfl, rfl, ⟨fun h => (by cases h), fun h => absurd (congrArg List.length h) hne⟩⟩
  have heq : a.xs.length = b.xs.length := by omega
  refine s_loop (σ := Nat) (fun k => [(0, .slice a.A a.xs.length a.c), (1, .slice b.A b.xs.length b.c), (12, .int .i64 a.xs.length), (13, .int .i64 (k : Nat))]) (fun _ => []) (fun k => k ≤ a.xs.length ∧ ∀ j, j < k → nth a.xs j = nth b.xs j) (fun k => a.xs.length - k) 0 (by repeat (first | exact trivial | refine ⟨rfl, ?_⟩)) ⟨Nat.zero_le _, fun j hj => absurd hj (Nat.not_lt_zero j)⟩ (PSub.take [] rfl) ?_
  rintro g k ⟨hk, hkj⟩
  (repeat' (first | refine s_nil ?_ | (refine k_C ?_; first | refine s_seq ?_ | refine s_region ?_) | (refine k_E ?_; refine e_seq ?_) | (refine k_bin ?_; refine s_lss rfl rfl ?_)))
  (first | (refine k_C ?_; (refine s_ifd rfl ?_ ?_ <;> intro hc <;> try (exfalso; omega))))
  · have hkl : k < a.xs.length := by omega
    have hkl2 : k < b.xs.length := by omega
    (repeat' (first | refine s_move ?_ | refine s_assign ?_ | refine s_nil ?_ | (refine k_C ?_; first | refine s_seq ?_ | refine s_region ?_ | refine s_stillP foI rfl (by kernel_rfl) ?_ | refine s_skip ?_ | refine s_block ?_) | (refine k_E ?_; refine e_seq ?_) | (refine k_load ?_; refine s_ldSA rfl rfl om rfl ?_) | (refine k_idx ?_; refine s_idxS rfl rfl om ?_)))
    refine s_neqS (a := nth a.xs k) (b := nth b.xs k) rfl rfl ?_
    intro q hq
    cases q with
    | true =>
      have hq := hq.1 rfl
      (repeat' (first | refine s_move ?_ | refine s_nil ?_ | (refine k_C ?_; first | refine s_region ?_ | refine s_skip ?_ | refine s_iff rfl ?_) | (refine k_E ?_; first | refine e_seq ?_ | refine e_bk ?_) | (refine k_bin ?_; refine s_add1 rfl rfl om ?_)))
      refine e_lp (k + 1) (by repeat (first | exact trivial | refine ⟨rfl, ?_⟩)) ⟨by omega, fun j hj => ?_⟩ (by show _ - _ < _ - _; omega) (PSub.take [] rfl)
      rcases Nat.lt_or_ge j k with h | h
      · exact hkj j h
      · rw [show j = k by omega]; exact hq
    | false =>
      (repeat' (first | refine s_assign ?_ | refine s_nil ?_ | (refine k_C ?_; first | refine s_seq ?_ | refine s_region ?_ | refine s_ret ?_ | refine s_ift rfl ?_) | (refine k_E ?_; first | refine e_seq ?_ | refine e_seq_ret ?_ | refine e_bk_ret ?_ | refine e_lp_ret ?_)))
      exact e_done rfl rfl [] (PSub.take [] rfl) ⟨false, rfl, rfl, ⟨fun h => (by cases h), fun h => (by have := hq.2 (by rw [h]); cases this)⟩⟩
  have hkE : k = a.xs.length := by omega
  subst hkE
  (repeat' (first | refine s_assign ?_ | refine s_nil ?_ | (refine k_C ?_; first | refine s_seq ?_ | refine s_region ?_ | refine s_exit ?_ | refine s_ret ?_) | (refine k_E ?_; first | refine e_seq ?_ | refine e_seq_exit ?_ | refine e_bk_exit ?_ | refine e_lp_exit ?_)))
  refine e_done rfl rfl [] (PSub.take [] rfl) ⟨true, rfl, rfl, ⟨fun _ => ?_, fun _ => rfl⟩⟩
  apply List.ext_getElem heq
  intro j h1 h2
  have := hkj j h1
  rwa [nth_get h1, nth_get h2] at this
end Go.Proofs.Ytoknjpmlloikhaa
