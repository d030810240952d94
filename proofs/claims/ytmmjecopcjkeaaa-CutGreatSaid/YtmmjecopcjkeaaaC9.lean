/- The law's cuts. -/
import Derived.Test.YtmmjecopcjkeaaaC8
namespace Go.Proofs.Ytmmjecopcjkeaaa
set_option linter.unusedVariables false
set_option linter.unusedSimpArgs false
open Go Go.RowKit

set_option maxHeartbeats 4000000 in
theorem cutsL_spec (n : CutNet) (bits : Nat) (hbits : bits < 1152921504606846976) (hin : InN n) (q1 : n.fWeights.xs.length ≤ 60) (q2 : n.fWays.xs.length ≤ 100000) (q3 : n.fFrom.xs.length ≤ 100000) (q4 : n.fTo.xs.length ≤ 100000) :
    Spec Try.prog 12 [.agg (Enc.enc n).toArray, .int .i64 (bits : Int)] [] (fun ok w => RdD ok w n) fun r L' => ∃ b : Bool, r = .bool b ∧ (b = true ↔ Cut (ntOf n) (bitB bits)) ∧ L' = [] := by
  refine spec_of Try.func12 rfl rfl fun w0 f0 hR => ?_
  have hdiv : ∀ k, bits / 2 ^ k < 9223372036854775808 := fun k => Nat.lt_of_le_of_lt (Nat.div_le_self _ _) (by omega)
  (repeat' (first | refine s_move ?_ | refine s_assign ?_ | refine s_nil ?_ | (refine k_C ?_; first | refine s_seq ?_ | refine s_region ?_ | refine s_stillP foI rfl (by kernel_rfl) ?_ | refine s_skip ?_ | refine s_block ?_ | refine s_exit ?_ | refine s_ret ?_ | refine s_ift rfl ?_ | refine s_iff rfl ?_ | (refine s_ifd rfl ?_ ?_ <;> intro hc <;> try (exfalso; omega)) | (refine s_ifn rfl ?_ ?_ <;> intro hc <;> try (exfalso; omega)) | (refine s_if rfl ?_ ?_ <;> intro hc)) | (refine k_E ?_; first | refine e_seq ?_ | refine e_seq_ret ?_ | refine e_seq_exit ?_ | refine e_bk_exit ?_ | refine e_bk_ret ?_ | refine e_bk ?_ | refine e_bk_out rfl ?_ | refine e_lp_ret ?_ | refine e_lp_exit ?_ | refine e_ct_ret ?_ | refine e_ct_exit ?_) | (refine k_load ?_; first | refine s_ldB rfl rfl ?_ | refine s_ldBW rfl rfl ?_ | refine s_ldBA rfl (by decide) ?_ | refine s_ldRB rfl rfl ?_ | refine s_ldRBA rfl (by decide) ?_ | refine s_ld rfl om rfl ?_ | refine s_ldF rfl om rfl ?_ | refine s_ldA rfl om rfl ?_ | refine s_ldFA rfl om (by decide) ?_ | refine s_ldR rfl om rfl ?_ | refine s_ldS rfl rfl om rfl ?_ | refine s_ldSF rfl rfl om rfl ?_ | refine s_ldSA rfl rfl om rfl ?_ | refine s_ldSFA rfl rfl om (by decide) ?_) | (refine k_bin ?_; first | refine s_lss rfl rfl ?_ | refine s_add1 rfl rfl om ?_ | refine s_add64 rfl rfl om ?_ | refine s_sub64 rfl rfl om ?_ | refine s_eql rfl rfl ?_ | refine s_neq rfl rfl ?_ | refine s_gtr rfl rfl ?_ | refine s_geq rfl rfl ?_ | refine s_leq rfl rfl ?_ | refine s_beq rfl rfl ?_ | refine s_pnil rfl rfl ?_ | refine s_snil rfl rfl ?_ | refine s_bne rfl rfl ?_ | refine s_rem rfl rfl om ?_ | refine s_mul64 rfl rfl om ?_ | refine s_xor1 rfl rfl om ?_ | refine s_xor1I rfl rfl om om ?_ | refine s_shr rfl rfl om ?_ | refine s_shl1 rfl rfl om ?_ | refine s_and1 rfl rfl om ?_ | refine s_orN rfl rfl om om ?_) | (refine k_fld ?_; first | refine s_fld rfl ?_ | refine s_fldB rfl ?_) | (refine k_idx ?_; first | refine s_idx rfl rfl om ?_ | refine s_idxI rfl rfl om om ?_ | refine s_idxR rfl rfl om ?_ | refine s_idxRI rfl rfl om om ?_ | refine s_idxS rfl rfl om ?_ | refine s_idxSI rfl rfl om om ?_ | refine s_idxV (j := 0) rfl rfl (by decide) ?_ | refine s_idxV rfl rfl (by decide) ?_) | (refine k_store ?_; first | refine s_stW _ rfl rfl ?_ | refine s_st _ rfl rfl om ?_ | refine s_stB _ rfl rfl rfl (by decide) ?_) | (refine k_call ?_; first | refine s_len rfl ?_ | refine s_cap rfl ?_ | refine s_min rfl rfl ?_ | refine s_max rfl rfl ?_ | (refine s_appS rfl rfl om ?_; intro A c) | (refine s_appO rfl rfl om ?_; intro A c)) | (refine k_guard ?_; first | refine s_on rfl rfl ?_ | refine s_off rfl rfl rfl rfl ?_ | refine s_offU rfl rfl rfl rfl ?_ | (refine s_casesd rfl rfl ?_ ?_ <;> intro hc <;> try (exfalso; omega)) | (refine s_casesn rfl rfl ?_ ?_ <;> intro hc <;> try (exfalso; omega)) | (refine s_cases rfl rfl ?_ ?_ <;> intro hc)) | refine s_func (v1 := []) (v2 := [.pointer _]) rfl rfl ?_ | refine s_func (v1 := []) (v2 := []) rfl rfl ?_ | refine s_putW (yv := true) rfl rfl rfl trivial om ?_ | refine s_putIW (yv := true) rfl rfl rfl trivial om ?_ | refine s_lookW rfl rfl ?_ | refine s_lookSW rfl rfl ?_ | (refine s_alloc ?_; intro b) | (refine s_box _ rfl ?_; intro b) | (refine s_make rfl rfl om ?_; intro b) | (refine s_makeI rfl rfl om om ?_; intro b) | refine s_cutH rfl rfl om om ?_ | (refine s_cutL rfl rfl om ?_; intro A) | refine s_not rfl ?_ | refine s_pick rfl ?_ | refine s_convU rfl om ?_ | refine s_convUI rfl om om ?_ | refine s_extract rfl rfl ?_ | refine s_nilck rfl ?_ | (refine s_app1 _ (fun _ => rfl) rfl om ?_; intro v A c) | (refine s_app1N _ (fun _ => rfl) rfl (by decide) ?_; intro v A c) | (refine s_mkmapB ?_; intro b) | (refine s_mkmapI ?_; intro b) | (refine s_lit [] rfl (by decide) rfl ?_; intro b) | (refine s_lit [_] rfl (by decide) rfl ?_; intro b) | (refine s_lit [_, _] rfl (by decide) rfl ?_; intro b) | (refine s_lit [_, _, _] rfl (by decide) rfl ?_; intro b)))
  rename Nat => bs
  obtain ⟨bn, rfl⟩ : ∃ q, q = b := ⟨_, rfl⟩
  refine s_loop (σ := Nat × List Bool) (fun s => [(1, .int .i64 (bits : Int)), (2, .pointer (some ⟨bn, 0, none⟩)), (5, .slice (some ⟨bs, 0, none⟩) n.fWeights.xs.length n.fWeights.xs.length), (17, .slice n.fFrom.A n.fFrom.xs.length n.fFrom.c), (18, .int .i64 n.fFrom.xs.length), (19, .int .i64 (s.1 : Nat))]) (fun s => [own 4 (some ⟨bs, 0, none⟩) n.fWeights.xs.length n.fWeights.xs.length s.2, var 26 bn n])
    (fun s => s.1 ≤ n.fFrom.xs.length ∧ s.2.length = n.fWeights.xs.length ∧ (∀ v, nth s.2 v = true → Come (ntOf n) (bitB bits) v) ∧ (∀ v ∈ n.fFrom.xs.take s.1, bitB bits v.toNat = false → nth s.2 v.toNat = true)) (fun s => n.fFrom.xs.length - s.1) (0, List.replicate n.fWeights.xs.length Enc.dflt) (by repeat (first | exact trivial | refine ⟨rfl, ?_⟩)) ⟨Nat.zero_le _, by simp, fun v hv => ?_, fun v hv => ?_⟩ PSub.refl ?_
  · have h0 : nth (List.replicate n.fWeights.xs.length (Enc.dflt : Bool)) v = false := nth_rep
    have hv : nth (List.replicate n.fWeights.xs.length (Enc.dflt : Bool)) v = true := hv
    rw [h0] at hv; cases hv
  · cases hv
  rintro g ⟨i, s⟩ ⟨hi, hsl, hso, hba⟩
  dsimp only at hi hsl hso hba ⊢
  have hv1 : i < n.fFrom.xs.length → 0 ≤ (nth n.fFrom.xs i) := fun h => (hin.fr _ (nth_mem h)).1
  have hv2 : i < n.fFrom.xs.length → (nth n.fFrom.xs i) < n.fWeights.xs.length := fun h => (hin.fr _ (nth_mem h)).2
  have hd := hdiv ((nth n.fFrom.xs i)).toNat
  (repeat' (first | refine s_move ?_ | refine s_assign ?_ | refine s_nil ?_ | (refine k_C ?_; first | refine s_seq ?_ | refine s_region ?_ | refine s_stillP foI rfl (by kernel_rfl) ?_ | refine s_skip ?_ | refine s_block ?_ | refine s_exit ?_ | refine s_ret ?_ | refine s_ift rfl ?_ | refine s_iff rfl ?_ | (refine s_ifd rfl ?_ ?_ <;> intro hc <;> try (exfalso; omega)) | (refine s_ifn rfl ?_ ?_ <;> intro hc <;> try (exfalso; omega)) | (refine s_if rfl ?_ ?_ <;> intro hc)) | (refine k_E ?_; first | refine e_seq ?_ | refine e_seq_ret ?_ | refine e_seq_exit ?_ | refine e_bk_exit ?_ | refine e_bk_ret ?_ | refine e_bk ?_ | refine e_bk_out rfl ?_ | refine e_lp_ret ?_ | refine e_lp_exit ?_ | refine e_ct_ret ?_ | refine e_ct_exit ?_) | (refine k_load ?_; first | refine s_ldB rfl rfl ?_ | refine s_ldBW rfl rfl ?_ | refine s_ldBA rfl (by decide) ?_ | refine s_ldRB rfl rfl ?_ | refine s_ldRBA rfl (by decide) ?_ | refine s_ld rfl om rfl ?_ | refine s_ldF rfl om rfl ?_ | refine s_ldA rfl om rfl ?_ | refine s_ldFA rfl om (by decide) ?_ | refine s_ldR rfl om rfl ?_ | refine s_ldS rfl rfl om rfl ?_ | refine s_ldSF rfl rfl om rfl ?_ | refine s_ldSA rfl rfl om rfl ?_ | refine s_ldSFA rfl rfl om (by decide) ?_) | (refine k_bin ?_; first | refine s_lss rfl rfl ?_ | refine s_add1 rfl rfl om ?_ | refine s_add64 rfl rfl om ?_ | refine s_sub64 rfl rfl om ?_ | refine s_eql rfl rfl ?_ | refine s_neq rfl rfl ?_ | refine s_gtr rfl rfl ?_ | refine s_geq rfl rfl ?_ | refine s_leq rfl rfl ?_ | refine s_beq rfl rfl ?_ | refine s_pnil rfl rfl ?_ | refine s_snil rfl rfl ?_ | refine s_bne rfl rfl ?_ | refine s_rem rfl rfl om ?_ | refine s_mul64 rfl rfl om ?_ | refine s_xor1 rfl rfl om ?_ | refine s_xor1I rfl rfl om om ?_ | refine s_shr rfl rfl om ?_ | refine s_shl1 rfl rfl om ?_ | refine s_and1 rfl rfl om ?_ | refine s_orN rfl rfl om om ?_) | (refine k_fld ?_; first | refine s_fld rfl ?_ | refine s_fldB rfl ?_) | (refine k_idx ?_; first | refine s_idx rfl rfl om ?_ | refine s_idxI rfl rfl om om ?_ | refine s_idxR rfl rfl om ?_ | refine s_idxRI rfl rfl om om ?_ | refine s_idxS rfl rfl om ?_ | refine s_idxSI rfl rfl om om ?_ | refine s_idxV (j := 0) rfl rfl (by decide) ?_ | refine s_idxV rfl rfl (by decide) ?_) | (refine k_store ?_; first | refine s_stW _ rfl rfl ?_ | refine s_st _ rfl rfl om ?_ | refine s_stB _ rfl rfl rfl (by decide) ?_) | (refine k_call ?_; first | refine s_len rfl ?_ | refine s_cap rfl ?_ | refine s_min rfl rfl ?_ | refine s_max rfl rfl ?_ | (refine s_appS rfl rfl om ?_; intro A c) | (refine s_appO rfl rfl om ?_; intro A c)) | (refine k_guard ?_; first | refine s_on rfl rfl ?_ | refine s_off rfl rfl rfl rfl ?_ | refine s_offU rfl rfl rfl rfl ?_ | (refine s_casesd rfl rfl ?_ ?_ <;> intro hc <;> try (exfalso; omega)) | (refine s_casesn rfl rfl ?_ ?_ <;> intro hc <;> try (exfalso; omega)) | (refine s_cases rfl rfl ?_ ?_ <;> intro hc)) | refine s_func (v1 := []) (v2 := [.pointer _]) rfl rfl ?_ | refine s_func (v1 := []) (v2 := []) rfl rfl ?_ | refine s_putW (yv := true) rfl rfl rfl trivial om ?_ | refine s_putIW (yv := true) rfl rfl rfl trivial om ?_ | refine s_lookW rfl rfl ?_ | refine s_lookSW rfl rfl ?_ | (refine s_alloc ?_; intro b) | (refine s_box _ rfl ?_; intro b) | (refine s_make rfl rfl om ?_; intro b) | (refine s_makeI rfl rfl om om ?_; intro b) | refine s_cutH rfl rfl om om ?_ | (refine s_cutL rfl rfl om ?_; intro A) | refine s_not rfl ?_ | refine s_pick rfl ?_ | refine s_convU rfl om ?_ | refine s_convUI rfl om om ?_ | refine s_extract rfl rfl ?_ | refine s_nilck rfl ?_ | (refine s_app1 _ (fun _ => rfl) rfl om ?_; intro v A c) | (refine s_app1N _ (fun _ => rfl) rfl (by decide) ?_; intro v A c) | (refine s_mkmapB ?_; intro b) | (refine s_mkmapI ?_; intro b) | (refine s_lit [] rfl (by decide) rfl ?_; intro b) | (refine s_lit [_] rfl (by decide) rfl ?_; intro b) | (refine s_lit [_, _] rfl (by decide) rfl ?_; intro b) | (refine s_lit [_, _, _] rfl (by decide) rfl ?_; intro b)))
  · have h1 : i < n.fFrom.xs.length := by omega
    have hb : bitB bits ((nth n.fFrom.xs i)).toNat = false := decide_eq_false (by omega)
    have hlt : ((nth n.fFrom.xs i)).toNat < s.length := by have := hv2 h1; have := hv1 h1; omega
    refine e_lp (i + 1, s.set ((nth n.fFrom.xs i)).toNat true) (by repeat (first | exact trivial | refine ⟨rfl, ?_⟩)) ⟨by show i + 1 ≤ _; omega, by simp [hsl], fun v hv => ?_, fun v hv hb' => ?_⟩ (by show _ - _ < _ - _; omega) (PSub.take [0, 0] rfl)
    · rw [nth_set hlt] at hv
      split at hv
      · rename_i e; subst e
        exact .fr (List.mem_map.2 ⟨_, nth_mem h1, rfl⟩) hb
      · exact hso v hv
    · rw [← takeN h1] at hv
      rw [nth_set hlt]
      split
      · rfl
      · rcases List.mem_append.1 hv with hv | hv
        · exact hba v hv hb'
        · rw [List.mem_singleton] at hv
          subst hv
          rename_i e; exact absurd rfl e
  · have h1 : i < n.fFrom.xs.length := by omega
    have hb : bitB bits ((nth n.fFrom.xs i)).toNat = true := decide_eq_true (by omega)
    refine e_lp (i + 1, s) (by repeat (first | exact trivial | refine ⟨rfl, ?_⟩)) ⟨by show i + 1 ≤ _; omega, hsl, hso, fun v hv hb' => ?_⟩ (by show _ - _ < _ - _; omega) (PSub.take [0, 0] rfl)
    rw [← takeN h1] at hv
    rcases List.mem_append.1 hv with hv | hv
    · exact hba v hv hb'
    · rw [List.mem_singleton] at hv
      subst hv
      rw [hb] at hb'; cases hb'
  have hi' : i = n.fFrom.xs.length := by omega
  subst hi'
  rw [List.take_length] at hba
  refine s_loop (σ := Nat × List Bool) (fun s => [(1, .int .i64 (bits : Int)), (2, .pointer (some ⟨bn, 0, none⟩)), (5, .slice (some ⟨bs, 0, none⟩) n.fWeights.xs.length n.fWeights.xs.length), (34, .slice n.fWeights.A n.fWeights.xs.length n.fWeights.c), (35, .int .i64 n.fWeights.xs.length), (36, .int .i64 (s.1 : Nat))]) (fun s => [own 4 (some ⟨bs, 0, none⟩) n.fWeights.xs.length n.fWeights.xs.length s.2, var 26 bn n])
    (fun s => s.1 ≤ n.fWeights.xs.length ∧ s.2.length = n.fWeights.xs.length ∧ (∀ v, nth s.2 v = true → Come (ntOf n) (bitB bits) v) ∧ (∀ v ∈ n.fFrom.xs, bitB bits v.toNat = false → nth s.2 v.toNat = true) ∧ (ClosedT n (bitB bits) s.2 ∨ s.1 ≤ cntT s.2)) (fun s => n.fWeights.xs.length - s.1) (0, s) (by repeat (first | exact trivial | refine ⟨rfl, ?_⟩)) ⟨Nat.zero_le _, hsl, hso, hba, .inr (Nat.zero_le _)⟩ PSub.refl ?_
  rintro g2 ⟨r, s⟩ ⟨k1, k2, k3, k4, k5⟩
  dsimp only at k1 k2 k3 k4 k5 ⊢
  (repeat' (first | refine s_move ?_ | refine s_assign ?_ | refine s_nil ?_ | (refine k_C ?_; first | refine s_seq ?_ | refine s_region ?_ | refine s_stillP foI rfl (by kernel_rfl) ?_ | refine s_skip ?_ | refine s_block ?_ | refine s_exit ?_ | refine s_ret ?_ | refine s_ift rfl ?_ | refine s_iff rfl ?_ | (refine s_ifd rfl ?_ ?_ <;> intro hc <;> try (exfalso; omega)) | (refine s_ifn rfl ?_ ?_ <;> intro hc <;> try (exfalso; omega)) | (refine s_if rfl ?_ ?_ <;> intro hc)) | (refine k_E ?_; first | refine e_seq ?_ | refine e_seq_ret ?_ | refine e_seq_exit ?_ | refine e_bk_exit ?_ | refine e_bk_ret ?_ | refine e_bk ?_ | refine e_bk_out rfl ?_ | refine e_lp_ret ?_ | refine e_lp_exit ?_ | refine e_ct_ret ?_ | refine e_ct_exit ?_) | (refine k_load ?_; first | refine s_ldB rfl rfl ?_ | refine s_ldBW rfl rfl ?_ | refine s_ldBA rfl (by decide) ?_ | refine s_ldRB rfl rfl ?_ | refine s_ldRBA rfl (by decide) ?_ | refine s_ld rfl om rfl ?_ | refine s_ldF rfl om rfl ?_ | refine s_ldA rfl om rfl ?_ | refine s_ldFA rfl om (by decide) ?_ | refine s_ldR rfl om rfl ?_ | refine s_ldS rfl rfl om rfl ?_ | refine s_ldSF rfl rfl om rfl ?_ | refine s_ldSA rfl rfl om rfl ?_ | refine s_ldSFA rfl rfl om (by decide) ?_) | (refine k_bin ?_; first | refine s_lss rfl rfl ?_ | refine s_add1 rfl rfl om ?_ | refine s_add64 rfl rfl om ?_ | refine s_sub64 rfl rfl om ?_ | refine s_eql rfl rfl ?_ | refine s_neq rfl rfl ?_ | refine s_gtr rfl rfl ?_ | refine s_geq rfl rfl ?_ | refine s_leq rfl rfl ?_ | refine s_beq rfl rfl ?_ | refine s_pnil rfl rfl ?_ | refine s_snil rfl rfl ?_ | refine s_bne rfl rfl ?_ | refine s_rem rfl rfl om ?_ | refine s_mul64 rfl rfl om ?_ | refine s_xor1 rfl rfl om ?_ | refine s_xor1I rfl rfl om om ?_ | refine s_shr rfl rfl om ?_ | refine s_shl1 rfl rfl om ?_ | refine s_and1 rfl rfl om ?_ | refine s_orN rfl rfl om om ?_) | (refine k_fld ?_; first | refine s_fld rfl ?_ | refine s_fldB rfl ?_) | (refine k_idx ?_; first | refine s_idx rfl rfl om ?_ | refine s_idxI rfl rfl om om ?_ | refine s_idxR rfl rfl om ?_ | refine s_idxRI rfl rfl om om ?_ | refine s_idxS rfl rfl om ?_ | refine s_idxSI rfl rfl om om ?_ | refine s_idxV (j := 0) rfl rfl (by decide) ?_ | refine s_idxV rfl rfl (by decide) ?_) | (refine k_store ?_; first | refine s_stW _ rfl rfl ?_ | refine s_st _ rfl rfl om ?_ | refine s_stB _ rfl rfl rfl (by decide) ?_) | (refine k_call ?_; first | refine s_len rfl ?_ | refine s_cap rfl ?_ | refine s_min rfl rfl ?_ | refine s_max rfl rfl ?_ | (refine s_appS rfl rfl om ?_; intro A c) | (refine s_appO rfl rfl om ?_; intro A c)) | (refine k_guard ?_; first | refine s_on rfl rfl ?_ | refine s_off rfl rfl rfl rfl ?_ | refine s_offU rfl rfl rfl rfl ?_ | (refine s_casesd rfl rfl ?_ ?_ <;> intro hc <;> try (exfalso; omega)) | (refine s_casesn rfl rfl ?_ ?_ <;> intro hc <;> try (exfalso; omega)) | (refine s_cases rfl rfl ?_ ?_ <;> intro hc)) | refine s_func (v1 := []) (v2 := [.pointer _]) rfl rfl ?_ | refine s_func (v1 := []) (v2 := []) rfl rfl ?_ | refine s_putW (yv := true) rfl rfl rfl trivial om ?_ | refine s_putIW (yv := true) rfl rfl rfl trivial om ?_ | refine s_lookW rfl rfl ?_ | refine s_lookSW rfl rfl ?_ | (refine s_alloc ?_; intro b) | (refine s_box _ rfl ?_; intro b) | (refine s_make rfl rfl om ?_; intro b) | (refine s_makeI rfl rfl om om ?_; intro b) | refine s_cutH rfl rfl om om ?_ | (refine s_cutL rfl rfl om ?_; intro A) | refine s_not rfl ?_ | refine s_pick rfl ?_ | refine s_convU rfl om ?_ | refine s_convUI rfl om om ?_ | refine s_extract rfl rfl ?_ | refine s_nilck rfl ?_ | (refine s_app1 _ (fun _ => rfl) rfl om ?_; intro v A c) | (refine s_app1N _ (fun _ => rfl) rfl (by decide) ?_; intro v A c) | (refine s_mkmapB ?_; intro b) | (refine s_mkmapI ?_; intro b) | (refine s_lit [] rfl (by decide) rfl ?_; intro b) | (refine s_lit [_] rfl (by decide) rfl ?_; intro b) | (refine s_lit [_, _] rfl (by decide) rfl ?_; intro b) | (refine s_lit [_, _, _] rfl (by decide) rfl ?_; intro b)))
  · refine s_loop (σ := Nat × List Bool) (fun s' => [(1, .int .i64 (bits : Int)), (2, .pointer (some ⟨bn, 0, none⟩)), (5, .slice (some ⟨bs, 0, none⟩) n.fWeights.xs.length n.fWeights.xs.length), (34, .slice n.fWeights.A n.fWeights.xs.length n.fWeights.c), (35, .int .i64 n.fWeights.xs.length), (36, .int .i64 (r : Nat)), (39, .slice n.fWays.A n.fWays.xs.length n.fWays.c), (40, .int .i64 n.fWays.xs.length), (41, .int .i64 (s'.1 : Nat))]) (fun s' => [own 4 (some ⟨bs, 0, none⟩) n.fWeights.xs.length n.fWeights.xs.length s'.2, var 26 bn n])
      (fun s' => s'.1 ≤ n.fWays.xs.length ∧ s'.2.length = n.fWeights.xs.length ∧ (∀ v, nth s'.2 v = true → Come (ntOf n) (bitB bits) v) ∧ (∀ v ∈ n.fFrom.xs, bitB bits v.toNat = false → nth s'.2 v.toNat = true) ∧ ((¬ ClosedT n (bitB bits) s ∧ cntT s < cntT s'.2) ∨ (s'.2 = s ∧ ∀ w ∈ n.fWays.xs.take s'.1, nth s w.a.toNat = true → bitB bits w.b.toNat = false → nth s w.b.toNat = true))) (fun s' => n.fWays.xs.length - s'.1) (0, s) (by repeat (first | exact trivial | refine ⟨rfl, ?_⟩)) ⟨Nat.zero_le _, k2, k3, k4, .inr ⟨rfl, fun w hw => by simp at hw⟩⟩ PSub.refl ?_
    rintro g3 ⟨j, s'⟩ ⟨m1, m2, m3, m4, m5⟩
    dsimp only at m1 m2 m3 m4 m5 ⊢
    have hw : j < n.fWays.xs.length → (0 ≤ (nth n.fWays.xs j).a ∧ (nth n.fWays.xs j).a < n.fWeights.xs.length) ∧ (0 ≤ (nth n.fWays.xs j).b ∧ (nth n.fWays.xs j).b < n.fWeights.xs.length) := fun h => hin.wy _ (nth_mem h)
    have hw1 : j < n.fWays.xs.length → 0 ≤ (nth n.fWays.xs j).a := fun h => (hw h).1.1
    have hw2 : j < n.fWays.xs.length → (nth n.fWays.xs j).a < n.fWeights.xs.length := fun h => (hw h).1.2
    have hw3 : j < n.fWays.xs.length → 0 ≤ (nth n.fWays.xs j).b := fun h => (hw h).2.1
    have hw4 : j < n.fWays.xs.length → (nth n.fWays.xs j).b < n.fWeights.xs.length := fun h => (hw h).2.2
    have hd2 := hdiv ((nth n.fWays.xs j).b).toNat
    (repeat' (first | refine s_move ?_ | refine s_assign ?_ | refine s_nil ?_ | (refine k_C ?_; first | refine s_seq ?_ | refine s_region ?_ | refine s_stillP foI rfl (by kernel_rfl) ?_ | refine s_skip ?_ | refine s_block ?_ | refine s_exit ?_ | refine s_ret ?_ | refine s_ift rfl ?_ | refine s_iff rfl ?_ | (refine s_ifd rfl ?_ ?_ <;> intro hc <;> try (exfalso; omega)) | (refine s_ifn rfl ?_ ?_ <;> intro hc <;> try (exfalso; omega)) | (refine s_if rfl ?_ ?_ <;> intro hc)) | (refine k_E ?_; first | refine e_seq ?_ | refine e_seq_ret ?_ | refine e_seq_exit ?_ | refine e_bk_exit ?_ | refine e_bk_ret ?_ | refine e_bk ?_ | refine e_bk_out rfl ?_ | refine e_lp_ret ?_ | refine e_lp_exit ?_ | refine e_ct_ret ?_ | refine e_ct_exit ?_) | (refine k_load ?_; first | refine s_ldB rfl rfl ?_ | refine s_ldBW rfl rfl ?_ | refine s_ldBA rfl (by decide) ?_ | refine s_ldRB rfl rfl ?_ | refine s_ldRBA rfl (by decide) ?_ | refine s_ld rfl om rfl ?_ | refine s_ldF rfl om rfl ?_ | refine s_ldA rfl om rfl ?_ | refine s_ldFA rfl om (by decide) ?_ | refine s_ldR rfl om rfl ?_ | refine s_ldS rfl rfl om rfl ?_ | refine s_ldSF rfl rfl om rfl ?_ | refine s_ldSA rfl rfl om rfl ?_ | refine s_ldSFA rfl rfl om (by decide) ?_) | (refine k_bin ?_; first | refine s_lss rfl rfl ?_ | refine s_add1 rfl rfl om ?_ | refine s_add64 rfl rfl om ?_ | refine s_sub64 rfl rfl om ?_ | refine s_eql rfl rfl ?_ | refine s_neq rfl rfl ?_ | refine s_gtr rfl rfl ?_ | refine s_geq rfl rfl ?_ | refine s_leq rfl rfl ?_ | refine s_beq rfl rfl ?_ | refine s_pnil rfl rfl ?_ | refine s_snil rfl rfl ?_ | refine s_bne rfl rfl ?_ | refine s_rem rfl rfl om ?_ | refine s_mul64 rfl rfl om ?_ | refine s_xor1 rfl rfl om ?_ | refine s_xor1I rfl rfl om om ?_ | refine s_shr rfl rfl om ?_ | refine s_shl1 rfl rfl om ?_ | refine s_and1 rfl rfl om ?_ | refine s_orN rfl rfl om om ?_) | (refine k_fld ?_; first | refine s_fld rfl ?_ | refine s_fldB rfl ?_) | (refine k_idx ?_; first | refine s_idx rfl rfl om ?_ | refine s_idxI rfl rfl om om ?_ | refine s_idxR rfl rfl om ?_ | refine s_idxRI rfl rfl om om ?_ | refine s_idxS rfl rfl om ?_ | refine s_idxSI rfl rfl om om ?_ | refine s_idxV (j := 0) rfl rfl (by decide) ?_ | refine s_idxV rfl rfl (by decide) ?_) | (refine k_store ?_; first | refine s_stW _ rfl rfl ?_ | refine s_st _ rfl rfl om ?_ | refine s_stB _ rfl rfl rfl (by decide) ?_) | (refine k_call ?_; first | refine s_len rfl ?_ | refine s_cap rfl ?_ | refine s_min rfl rfl ?_ | refine s_max rfl rfl ?_ | (refine s_appS rfl rfl om ?_; intro A c) | (refine s_appO rfl rfl om ?_; intro A c)) | (refine k_guard ?_; first | refine s_on rfl rfl ?_ | refine s_off rfl rfl rfl rfl ?_ | refine s_offU rfl rfl rfl rfl ?_ | (refine s_casesd rfl rfl ?_ ?_ <;> intro hc <;> try (exfalso; omega)) | (refine s_casesn rfl rfl ?_ ?_ <;> intro hc <;> try (exfalso; omega)) | (refine s_cases rfl rfl ?_ ?_ <;> intro hc)) | refine s_func (v1 := []) (v2 := [.pointer _]) rfl rfl ?_ | refine s_func (v1 := []) (v2 := []) rfl rfl ?_ | refine s_putW (yv := true) rfl rfl rfl trivial om ?_ | refine s_putIW (yv := true) rfl rfl rfl trivial om ?_ | refine s_lookW rfl rfl ?_ | refine s_lookSW rfl rfl ?_ | (refine s_alloc ?_; intro b) | (refine s_box _ rfl ?_; intro b) | (refine s_make rfl rfl om ?_; intro b) | (refine s_makeI rfl rfl om om ?_; intro b) | refine s_cutH rfl rfl om om ?_ | (refine s_cutL rfl rfl om ?_; intro A) | refine s_not rfl ?_ | refine s_pick rfl ?_ | refine s_convU rfl om ?_ | refine s_convUI rfl om om ?_ | refine s_extract rfl rfl ?_ | refine s_nilck rfl ?_ | (refine s_app1 _ (fun _ => rfl) rfl om ?_; intro v A c) | (refine s_app1N _ (fun _ => rfl) rfl (by decide) ?_; intro v A c) | (refine s_mkmapB ?_; intro b) | (refine s_mkmapI ?_; intro b) | (refine s_lit [] rfl (by decide) rfl ?_; intro b) | (refine s_lit [_] rfl (by decide) rfl ?_; intro b) | (refine s_lit [_, _] rfl (by decide) rfl ?_; intro b) | (refine s_lit [_, _, _] rfl (by decide) rfl ?_; intro b)))
    · have h1 : j < n.fWays.xs.length := by omega
      have ha : nth s' ((nth n.fWays.xs j).a).toNat = true := by assumption
      have hb : bitB bits ((nth n.fWays.xs j).b).toNat = false := decide_eq_false (by omega)
      have hlt : ((nth n.fWays.xs j).b).toNat < s'.length := by have := hw h1; omega
      refine e_lp (j + 1, s'.set ((nth n.fWays.xs j).b).toNat true) (by repeat (first | exact trivial | refine ⟨rfl, ?_⟩)) ⟨by show j + 1 ≤ _; omega, by simp [m2], fun v hv => ?_, fun v hv hb' => ?_, ?_⟩ (by show _ - _ < _ - _; omega) (PSub.take [1, 1] rfl)
      · rw [nth_set hlt] at hv
        split at hv
        · rename_i e; subst e
          exact .wy (m3 _ ha) (List.mem_map.2 ⟨_, nth_mem h1, rfl⟩) hb
        · exact m3 v hv
      · rw [nth_set hlt]
        split
        · rfl
        · exact m4 v hv hb'
      · show (_ ∧ cntT s < cntT (s'.set ((nth n.fWays.xs j).b).toNat true)) ∨ (s'.set ((nth n.fWays.xs j).b).toNat true = s ∧ _)
        cases h0 : nth s' ((nth n.fWays.xs j).b).toNat with
        | true =>
          rw [set_same h0]
          rcases m5 with m5 | ⟨e, m5⟩
          · exact .inl m5
          · refine .inr ⟨e, fun w hw' x1 x2 => ?_⟩
            rw [← takeN h1] at hw'
            rcases List.mem_append.1 hw' with hw' | hw'
            · exact m5 w hw' x1 x2
            · rw [List.mem_singleton] at hw'
              subst hw'
              rw [← e]; exact h0
        | false =>
          rw [cntT_set hlt h0]
          rcases m5 with ⟨m5, m6⟩ | ⟨e, m5⟩
          · exact .inl ⟨m5, by omega⟩
          · subst e
            refine .inl ⟨fun hc => ?_, by omega⟩
            have := hc _ (nth_mem h1) ha hb
            rw [h0] at this; cases this
    iterate 2
      · have h1 : j < n.fWays.xs.length := by omega
        refine e_lp (j + 1, s') (by repeat (first | exact trivial | refine ⟨rfl, ?_⟩)) ⟨by show j + 1 ≤ _; omega, m2, m3, m4, ?_⟩ (by show _ - _ < _ - _; omega) (PSub.take [1, 1] rfl)
        rcases m5 with m5 | ⟨e, m5⟩
        · exact .inl m5
        · refine .inr ⟨e, fun w hw' x1 x2 => ?_⟩
          have hw' : w ∈ n.fWays.xs.take (j + 1) := hw'
          rw [← takeN h1] at hw'
          rcases List.mem_append.1 hw' with hw' | hw'
          · exact m5 w hw' x1 x2
          · rw [List.mem_singleton] at hw'
            subst hw'
            exfalso
            first
              | (have hb : bitB bits ((nth n.fWays.xs j).b).toNat = true := decide_eq_true (by omega)
                 rw [hb] at x2; cases x2)
              | (have hn : nth s' ((nth n.fWays.xs j).a).toNat = false := by assumption
                 rw [e, x1] at hn; cases hn)
    · have hj' : j = n.fWays.xs.length := by omega
      subst hj'
      rw [List.take_length] at m5
      refine e_lp (r + 1, s') (by repeat (first | exact trivial | refine ⟨rfl, ?_⟩)) ⟨by show r + 1 ≤ _; omega, m2, m3, m4, ?_⟩ (by show _ - _ < _ - _; omega) (PSub.take [0, 0] rfl)
      show ClosedT n (bitB bits) s' ∨ r + 1 ≤ cntT s'
      rcases m5 with ⟨m5, m6⟩ | ⟨e, m5⟩
      · exact .inr (by have := k5.resolve_left m5; omega)
      · subst e
        exact .inl m5
  have hr : r = n.fWeights.xs.length := by omega
  subst hr
  have hcl : ClosedT n (bitB bits) s := by
    rcases k5 with h | h
    · exact h
    · intro w hw x1 x2
      have := hin.wy w hw
      exact cntT_all (by omega) (by omega)
  have hiff := come_iff k3 k4 hcl
  refine s_loop (σ := Nat) (fun i => [(5, .slice (some ⟨bs, 0, none⟩) n.fWeights.xs.length n.fWeights.xs.length), (66, .slice n.fTo.A n.fTo.xs.length n.fTo.c), (67, .int .i64 n.fTo.xs.length), (68, .int .i64 (i : Nat))]) (fun _ => [own 4 (some ⟨bs, 0, none⟩) n.fWeights.xs.length n.fWeights.xs.length s, var 26 bn n])
    (fun i => i ≤ n.fTo.xs.length ∧ ∀ v ∈ n.fTo.xs.take i, nth s v.toNat = false) (fun i => n.fTo.xs.length - i) 0 (by repeat (first | exact trivial | refine ⟨rfl, ?_⟩)) ⟨Nat.zero_le _, fun v hv => by simp at hv⟩ PSub.refl ?_
  rintro g4 i ⟨hi, hno⟩
  have hv1 : i < n.fTo.xs.length → 0 ≤ nth n.fTo.xs i := fun h => (hin.to _ (nth_mem h)).1
  have hv2 : i < n.fTo.xs.length → nth n.fTo.xs i < n.fWeights.xs.length := fun h => (hin.to _ (nth_mem h)).2
  (repeat' (first | refine s_move ?_ | refine s_assign ?_ | refine s_nil ?_ | (refine k_C ?_; first | refine s_seq ?_ | refine s_region ?_ | refine s_stillP foI rfl (by kernel_rfl) ?_ | refine s_skip ?_ | refine s_block ?_ | refine s_exit ?_ | refine s_ret ?_ | refine s_ift rfl ?_ | refine s_iff rfl ?_ | (refine s_ifd rfl ?_ ?_ <;> intro hc <;> try (exfalso; omega)) | (refine s_ifn rfl ?_ ?_ <;> intro hc <;> try (exfalso; omega)) | (refine s_if rfl ?_ ?_ <;> intro hc)) | (refine k_E ?_; first | refine e_seq ?_ | refine e_seq_ret ?_ | refine e_seq_exit ?_ | refine e_bk_exit ?_ | refine e_bk_ret ?_ | refine e_bk ?_ | refine e_bk_out rfl ?_ | refine e_lp_ret ?_ | refine e_lp_exit ?_ | refine e_ct_ret ?_ | refine e_ct_exit ?_) | (refine k_load ?_; first | refine s_ldB rfl rfl ?_ | refine s_ldBW rfl rfl ?_ | refine s_ldBA rfl (by decide) ?_ | refine s_ldRB rfl rfl ?_ | refine s_ldRBA rfl (by decide) ?_ | refine s_ld rfl om rfl ?_ | refine s_ldF rfl om rfl ?_ | refine s_ldA rfl om rfl ?_ | refine s_ldFA rfl om (by decide) ?_ | refine s_ldR rfl om rfl ?_ | refine s_ldS rfl rfl om rfl ?_ | refine s_ldSF rfl rfl om rfl ?_ | refine s_ldSA rfl rfl om rfl ?_ | refine s_ldSFA rfl rfl om (by decide) ?_) | (refine k_bin ?_; first | refine s_lss rfl rfl ?_ | refine s_add1 rfl rfl om ?_ | refine s_add64 rfl rfl om ?_ | refine s_sub64 rfl rfl om ?_ | refine s_eql rfl rfl ?_ | refine s_neq rfl rfl ?_ | refine s_gtr rfl rfl ?_ | refine s_geq rfl rfl ?_ | refine s_leq rfl rfl ?_ | refine s_beq rfl rfl ?_ | refine s_pnil rfl rfl ?_ | refine s_snil rfl rfl ?_ | refine s_bne rfl rfl ?_ | refine s_rem rfl rfl om ?_ | refine s_mul64 rfl rfl om ?_ | refine s_xor1 rfl rfl om ?_ | refine s_xor1I rfl rfl om om ?_ | refine s_shr rfl rfl om ?_ | refine s_shl1 rfl rfl om ?_ | refine s_and1 rfl rfl om ?_ | refine s_orN rfl rfl om om ?_) | (refine k_fld ?_; first | refine s_fld rfl ?_ | refine s_fldB rfl ?_) | (refine k_idx ?_; first | refine s_idx rfl rfl om ?_ | refine s_idxI rfl rfl om om ?_ | refine s_idxR rfl rfl om ?_ | refine s_idxRI rfl rfl om om ?_ | refine s_idxS rfl rfl om ?_ | refine s_idxSI rfl rfl om om ?_ | refine s_idxV (j := 0) rfl rfl (by decide) ?_ | refine s_idxV rfl rfl (by decide) ?_) | (refine k_store ?_; first | refine s_stW _ rfl rfl ?_ | refine s_st _ rfl rfl om ?_ | refine s_stB _ rfl rfl rfl (by decide) ?_) | (refine k_call ?_; first | refine s_len rfl ?_ | refine s_cap rfl ?_ | refine s_min rfl rfl ?_ | refine s_max rfl rfl ?_ | (refine s_appS rfl rfl om ?_; intro A c) | (refine s_appO rfl rfl om ?_; intro A c)) | (refine k_guard ?_; first | refine s_on rfl rfl ?_ | refine s_off rfl rfl rfl rfl ?_ | refine s_offU rfl rfl rfl rfl ?_ | (refine s_casesd rfl rfl ?_ ?_ <;> intro hc <;> try (exfalso; omega)) | (refine s_casesn rfl rfl ?_ ?_ <;> intro hc <;> try (exfalso; omega)) | (refine s_cases rfl rfl ?_ ?_ <;> intro hc)) | refine s_func (v1 := []) (v2 := [.pointer _]) rfl rfl ?_ | refine s_func (v1 := []) (v2 := []) rfl rfl ?_ | refine s_putW (yv := true) rfl rfl rfl trivial om ?_ | refine s_putIW (yv := true) rfl rfl rfl trivial om ?_ | refine s_lookW rfl rfl ?_ | refine s_lookSW rfl rfl ?_ | (refine s_alloc ?_; intro b) | (refine s_box _ rfl ?_; intro b) | (refine s_make rfl rfl om ?_; intro b) | (refine s_makeI rfl rfl om om ?_; intro b) | refine s_cutH rfl rfl om om ?_ | (refine s_cutL rfl rfl om ?_; intro A) | refine s_not rfl ?_ | refine s_pick rfl ?_ | refine s_convU rfl om ?_ | refine s_convUI rfl om om ?_ | refine s_extract rfl rfl ?_ | refine s_nilck rfl ?_ | (refine s_app1 _ (fun _ => rfl) rfl om ?_; intro v A c) | (refine s_app1N _ (fun _ => rfl) rfl (by decide) ?_; intro v A c) | (refine s_mkmapB ?_; intro b) | (refine s_mkmapI ?_; intro b) | (refine s_lit [] rfl (by decide) rfl ?_; intro b) | (refine s_lit [_] rfl (by decide) rfl ?_; intro b) | (refine s_lit [_, _] rfl (by decide) rfl ?_; intro b) | (refine s_lit [_, _, _] rfl (by decide) rfl ?_; intro b)))
  · have h1 : i < n.fTo.xs.length := by omega
    refine e_done rfl rfl _ (PSub.take [] rfl) ⟨false, rfl, ⟨fun h => (by cases h), fun h => ?_⟩, rfl⟩
    exact absurd ((hiff _).2 hc) (h _ (List.mem_map.2 ⟨_, nth_mem h1, rfl⟩))
  · have h1 : i < n.fTo.xs.length := by omega
    refine e_lp (i + 1) (by repeat (first | exact trivial | refine ⟨rfl, ?_⟩)) ⟨by omega, fun v hv => ?_⟩ (by show _ - _ < _ - _; omega) (PSub.take [0, 0] rfl)
    rw [← takeN h1] at hv
    rcases List.mem_append.1 hv with hv | hv
    · exact hno v hv
    · rw [List.mem_singleton] at hv
      subst hv; exact hc
  · have hi' : i = n.fTo.xs.length := by omega
    subst hi'
    rw [List.take_length] at hno
    refine e_done rfl rfl _ (PSub.take [] rfl) ⟨true, rfl, ⟨fun _ v hv hc => ?_, fun _ => rfl⟩, rfl⟩
    obtain ⟨x, hx, rfl⟩ := List.mem_map.1 hv
    have := (hiff _).1 hc
    rw [hno x hx] at this; cases this
end Go.Proofs.Ytmmjecopcjkeaaa
