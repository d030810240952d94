/- Layer 7: ends. -/
import Derived.Test.YtboicgdblbfbeaaS7
namespace Go.Proofs.Ytboicgdblbfbeaa
set_option linter.unusedVariables false
set_option linter.unusedSimpArgs false
open Go Go.RowKit

def endN (k : Int) : Int := if k = 1 then 1 else if k = 2 then 2 else 0
def wayB (f : SsaFunc) (w : SsaEdge) : Bool := decide (1 ≤ w.fTo) && decide (w.fTo < f.fBlocks.xs.length) && decide (w.fArgs.xs.length = (nth f.fBlocks.xs w.fTo.toNat).fParams.xs.length)
def endP (e : SsaEnd) : Prop := (1 ≤ e.fKind ∧ e.fKind ≤ 4) ∧ (e.fWays.xs.length : Int) = endN e.fKind ∧ (e.fKind = 4 ↔ (e.fTrap = 1 ∨ e.fTrap = 2)) ∧ ((e.fKind = 2 ∨ e.fKind = 3) ↔ 0 < e.fVal) ∧ 0 ≤ e.fVal
instance (e : SsaEnd) : Decidable (endP e) := by unfold endP; infer_instance
def endB (e : SsaEnd) : Bool := decide (endP e)
def endsB (f : SsaFunc) (e : SsaEnd) : Bool := endB e && e.fWays.xs.all (wayB f)
set_option maxHeartbeats 2000000 in
theorem ends_spec (f : SsaFunc) (e : SsaEnd) (hw : e.fWays.xs.length ≤ 1000) : Spec Try.prog 15 [.agg (Enc.enc f).toArray, .agg (Enc.enc e).toArray] [] (fun ok w => RdD ok w f ∧ RdD ok w e) fun r L' => r = .bool (endsB f e) ∧ L' = [] := by
  refine spec_of Try.func15 rfl rfl fun w0 f0 ⟨hf, he⟩ => ?_
  (repeat' (first | refine s_assign ?_ | refine s_nil ?_ | (refine k_C ?_; first | refine s_seq ?_ | refine s_region ?_) | (refine k_E ?_; refine e_seq ?_) | (refine s_box _ rfl ?_; intro b) | (refine s_mkmapI ?_; intro b)))
  rename_i b2 b3
  obtain ⟨m, rfl⟩ : ∃ q, q = b := ⟨_, rfl⟩
  refine s_putI (k := 1) (yv := (1 : Int)) rfl rfl rfl ⟨by omega, by omega⟩ (by rfl) (by omega) ?_
  refine s_putI (k := 2) (yv := (2 : Int)) rfl rfl rfl ⟨by omega, by omega⟩ (by rfl) (by omega) ?_
  refine s_putI (k := 3) (yv := (0 : Int)) rfl rfl rfl ⟨by omega, by omega⟩ (by rfl) (by omega) ?_
  refine s_putI (k := 4) (yv := (0 : Int)) rfl rfl rfl ⟨by omega, by omega⟩ (by rfl) (by omega) ?_
  (repeat' (first | refine s_move ?_ | refine s_assign ?_ | refine s_nil ?_ | (refine k_C ?_; first | refine s_seq ?_ | refine s_region ?_) | (refine k_E ?_; refine e_seq ?_) | (refine k_load ?_; refine s_ldB rfl rfl ?_) | (refine k_fld ?_; refine s_fldB rfl ?_)))
  refine s_look_ok rfl rfl (RdD.int (ok := okOf w0 f0) (w := w0) (x := e.fKind) (by infer_instance)) ?_
  generalize hn : ((upd (upd (upd (upd (fun _ => none) 1 (some 1)) 2 (some 2)) 3 (some 0)) 4 (some (0 : Int)) e.fKind).getD _) = n
  generalize hk : (upd (upd (upd (upd (fun _ => none) 1 (some 1)) 2 (some 2)) 3 (some 0)) 4 (some (0 : Int)) e.fKind).isSome = kn
  have hn' : n = endN e.fKind := by
    rw [← hn]
    unfold upd endN
    by_cases h1 : e.fKind = 1
    · simp [h1]
    by_cases h2 : e.fKind = 2
    · simp [h2]
    by_cases h3 : e.fKind = 3
    · simp [h3]
    by_cases h4 : e.fKind = 4
    · simp [h4]
    simp [h1, h2, h3, h4]; rfl
  have hk' : kn = decide (1 ≤ e.fKind ∧ e.fKind ≤ 4) := by
    rw [← hk]
    unfold upd
    by_cases h1 : e.fKind = 1
    · simp [h1]
    by_cases h2 : e.fKind = 2
    · simp [h2]
    by_cases h3 : e.fKind = 3
    · simp [h3]
    by_cases h4 : e.fKind = 4
    · simp [h4]
    have : ¬ (1 ≤ e.fKind ∧ e.fKind ≤ 4) := by omega
    simp [h1, h2, h3, h4, this]
  clear hn hk
  subst hk'
  subst hn'
  (repeat' (first | refine s_move ?_ | refine s_assign ?_ | refine s_nil ?_ | (refine k_C ?_; first | refine s_seq ?_ | refine s_region ?_ | refine s_skip ?_ | refine s_block ?_ | refine s_ret ?_ | refine s_ift rfl ?_ | (refine s_ifd rfl ?_ ?_ <;> intro hc <;> try (exfalso; omega))) | (refine k_E ?_; first | refine e_seq ?_ | refine e_seq_ret ?_) | (refine k_load ?_; refine s_ldB rfl rfl ?_) | (refine k_bin ?_; first | refine s_lss rfl rfl ?_ | refine s_eql rfl rfl ?_ | refine s_neq rfl rfl ?_ | refine s_gtr rfl rfl ?_ | refine s_bne rfl rfl ?_) | (refine k_fld ?_; refine s_fldB rfl ?_) | (refine k_call ?_; refine s_len rfl ?_) | (refine k_guard ?_; first | refine s_on rfl rfl ?_ | refine s_off rfl rfl rfl rfl ?_ | refine s_offU rfl rfl rfl rfl ?_ | (refine s_casesd rfl rfl ?_ ?_ <;> intro hc <;> try (exfalso; omega)) | (refine s_casesn rfl rfl ?_ ?_ <;> intro hc <;> try (exfalso; omega))) | refine s_not rfl ?_ | refine s_pick rfl ?_ | refine s_extract rfl rfl ?_))
  all_goals try
    (refine e_done rfl rfl _ (PSub.take [] rfl) ⟨?_, rfl⟩
     show Value.bool false = Value.bool (endsB f e)
     have hb : ¬ endP e := by
       rintro ⟨p1, p2, p3, p4, p5⟩
       try simp only [Bool.not_eq_true', Bool.not_eq_false', decide_eq_true_eq, decide_eq_false_iff_not, decide_eq_decide, Bool.true_eq, Bool.false_eq] at *
       omega
     rw [endsB, endB, decide_eq_false hb]; rfl)
  all_goals
    have hP : endP e := by
      try simp only [Bool.not_eq_true', Bool.not_eq_false', decide_eq_true_eq, decide_eq_false_iff_not, decide_eq_decide, Bool.true_eq, Bool.false_eq] at *
      unfold endP
      omega
  all_goals
    refine s_loop (σ := Nat) (fun j => [(2, .pointer (some ⟨b2, 0, none⟩)), (62, .slice e.fWays.A e.fWays.xs.length e.fWays.c), (63, .int .i64 e.fWays.xs.length), (64, .int .i64 j)]) (fun j => [var 47 b2 f]) (fun j => j ≤ e.fWays.xs.length ∧ (e.fWays.xs.take j).all (wayB f) = true) (fun j => e.fWays.xs.length - j) 0 (by repeat (first | exact trivial | refine ⟨rfl, ?_⟩)) ⟨Nat.zero_le _, by simp⟩ (PSub.take [2] rfl) ?_
    rintro g j ⟨hj, hall⟩
    (repeat' (first | refine s_move ?_ | refine s_assign ?_ | refine s_nil ?_ | (refine k_C ?_; first | refine s_seq ?_ | refine s_region ?_ | refine s_stillP foI rfl (by kernel_rfl) ?_ | refine s_skip ?_ | refine s_block ?_ | refine s_exit ?_ | refine s_ret ?_ | refine s_ift rfl ?_ | (refine s_ifd rfl ?_ ?_ <;> intro hc <;> try (exfalso; omega)) | (refine s_ifn rfl ?_ ?_ <;> intro hc <;> try (exfalso; omega))) | (refine k_E ?_; first | refine e_seq ?_ | refine e_seq_ret ?_ | refine e_seq_exit ?_ | refine e_bk_exit ?_ | refine e_bk_ret ?_ | refine e_bk ?_ | refine e_lp_ret ?_ | refine e_lp_exit ?_) | (refine k_load ?_; first | refine s_ldB rfl rfl ?_ | refine s_ldS rfl rfl om rfl ?_ | refine s_ldSA rfl rfl om rfl ?_) | (refine k_bin ?_; first | refine s_lss rfl rfl ?_ | refine s_add1 rfl rfl om ?_ | refine s_neq rfl rfl ?_ | refine s_geq rfl rfl ?_) | (refine k_fld ?_; first | refine s_fld rfl ?_ | refine s_fldB rfl ?_) | (refine k_idx ?_; first | refine s_idxS rfl rfl om ?_ | refine s_idxSI rfl rfl om om ?_) | (refine k_store ?_; refine s_stW _ rfl rfl ?_) | (refine k_call ?_; refine s_len rfl ?_) | (refine k_guard ?_; first | refine s_on rfl rfl ?_ | refine s_off rfl rfl rfl rfl ?_ | (refine s_casesd rfl rfl ?_ ?_ <;> intro hc <;> try (exfalso; omega))) | (refine s_alloc ?_; intro b) | refine s_pick rfl ?_))
  all_goals first
    | (refine e_lp (j + 1) (by repeat (first | exact trivial | refine ⟨rfl, ?_⟩)) ⟨by omega, ?_⟩ (by show _ - _ < _ - _; omega) (PSub.take [1] rfl)
       have hw' : wayB f (nth e.fWays.xs j) = true := by
         simp only [wayB, Bool.and_eq_true, decide_eq_true_eq]; omega
       rw [← take_nth (by omega), List.all_append, hall]; simp [hw'])
    | (refine e_done rfl rfl _ (PSub.take [] rfl) ⟨?_, rfl⟩
       show Value.bool false = Value.bool (endsB f e)
       have hw' : wayB f (nth e.fWays.xs j) = false := by
         rw [Bool.eq_false_iff]; intro h; simp only [wayB, Bool.and_eq_true, decide_eq_true_eq] at h; omega
       rw [endsB, List.all_eq_false.2 ⟨_, nth_mem (i := j) (by omega), by simp [hw']⟩, Bool.and_false])
    | (refine e_done rfl rfl _ (PSub.take [] rfl) ⟨?_, rfl⟩
       show Value.bool true = Value.bool (endsB f e)
       have hj' : j = e.fWays.xs.length := by omega
       subst hj'
       rw [List.take_length] at hall
       rw [endsB, endB, decide_eq_true hP, hall]; rfl)
end Go.Proofs.Ytboicgdblbfbeaa
