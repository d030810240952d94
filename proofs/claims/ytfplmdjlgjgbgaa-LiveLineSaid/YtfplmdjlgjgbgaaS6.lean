/- Layer 7: used. -/
import Derived.Test.YtfplmdjlgjgbgaaS5
namespace Go.Proofs.Ytfplmdjlgjgbgaa
set_option linter.unusedVariables false
set_option linter.unusedSimpArgs false
open Go Go.RowKit
set_option maxHeartbeats 2000000 in
theorem used_spec (v : Option Nat) (N : Nat) (l : List Int) (bl : SsaBlock) (hN : N ≤ 100000000) (h1 : bl.fParams.xs.length ≤ 100000) (h2 : bl.fIns.xs.length ≤ 100000) (h3 : bl.fEnd.fWays.xs.length ≤ 100000) :
    Spec Try.prog 37 [.map v, .agg (Enc.enc bl).toArray] [] (fun ok w => RdSet v N l ok w ∧ RdD ok w bl) fun r L' => r = .bool (usedB l bl) ∧ L' = [] := by
  refine spec_of Try.func37 rfl rfl fun w0 f0 ⟨hm, hb⟩ => ?_
  haveI : RdMp EB 3 (okOf w0 f0) w0 v N (setF l) := ⟨hm⟩
  (repeat' (first | refine s_move ?_ | refine s_assign ?_ | refine s_nil ?_ | (refine k_C ?_; first | refine s_seq ?_ | refine s_region ?_) | (refine k_E ?_; refine e_seq ?_) | (refine k_store ?_; refine s_stW _ rfl rfl ?_) | (refine s_alloc ?_; intro b) | (refine s_box _ rfl ?_; intro b) | (refine s_mkmapB ?_; intro b)))
  rename_i b3 m
  obtain ⟨t, rfl⟩ : ∃ q, q = b := ⟨_, rfl⟩
  refine s_rangeS rfl ?_
  intro es clock cnt r hcnt hM
  (repeat' (first | refine s_nil ?_ | (refine k_C ?_; refine s_block ?_) | (refine k_E ?_; refine e_seq ?_)))
  refine s_loop (σ := (Int → Bool) × Nat × Nat) (fun s => [(3, .pointer (some ⟨b3, 0, none⟩)), (5, .pointer (some ⟨t, 0, none⟩)), (16, .pointer (some ⟨r, 0, none⟩))])
    (fun s => [itr Try.prog 3 4 v r es clock s.1 s.2.1, var 58 t (Mr.mk (some m)), mp EB 3 m s.2.2 (doneF l s.1), var 31 b3 bl]) (fun s => s.2.2 + s.2.1 ≤ N) (fun s => s.2.1) ((fun k => (setF l k).isSome), cnt, 0) (by repeat (first | exact trivial | refine ⟨rfl, ?_⟩)) (by simpa using hcnt) (PSub.eq ?_) ?_
  · simp only [← doneF_start]
  rintro f ⟨todo, c1, n1⟩ hJ
  dsimp only at hJ
  (repeat' (first | (refine k_C ?_; first | refine s_seq ?_ | refine s_region ?_)))
  refine s_nextS U_3 hM rfl (fun hf => ?_) (fun k x cnt' hk hg ht hF hlt => ?_)
  · dsimp only
    (repeat' (first | refine s_move ?_ | refine s_nil ?_ | (refine k_C ?_; first | refine s_seq ?_ | refine s_region ?_ | refine s_block ?_ | refine s_exit ?_ | refine s_iff rfl ?_) | (refine k_E ?_; first | refine e_seq ?_ | refine e_seq_exit ?_ | refine e_bk_exit ?_ | refine e_lp_exit ?_) | (refine k_load ?_; refine s_ldB rfl rfl ?_) | (refine k_fld ?_; refine s_fldB rfl ?_) | (refine k_call ?_; refine s_len rfl ?_) | refine s_extract rfl rfl ?_))
    rw [doneF_end hf]
    refine s_loop (σ := Nat) (fun i => [(3, .pointer (some ⟨b3, 0, none⟩)), (5, .pointer (some ⟨t, 0, none⟩)), (24, .slice bl.fParams.A bl.fParams.xs.length bl.fParams.c), (25, .int .i64 bl.fParams.xs.length), (26, .int .i64 i)])
      (fun i => [var 58 t (Mr.mk (some m)), mp EB 3 m (n1 + i) (setF (l ++ bl.fParams.xs.take i)), var 31 b3 bl]) (fun i => i ≤ bl.fParams.xs.length) (fun i => bl.fParams.xs.length - i) 0 (by repeat (first | exact trivial | refine ⟨rfl, ?_⟩)) (Nat.zero_le _) (PSub.eq (by simp)) ?_
    intro f i hi
    (repeat' (first | refine s_move ?_ | refine s_assign ?_ | refine s_nil ?_ | (refine k_C ?_; first | refine s_seq ?_ | refine s_region ?_ | refine s_skip ?_ | refine s_block ?_ | refine s_exit ?_ | (refine s_ifd rfl ?_ ?_ <;> intro hc <;> try (exfalso; omega))) | (refine k_E ?_; first | refine e_seq ?_ | refine e_seq_exit ?_ | refine e_bk_exit ?_ | refine e_bk ?_ | refine e_lp_exit ?_) | (refine k_load ?_; first | refine s_ldB rfl rfl ?_ | refine s_ldS rfl rfl om rfl ?_) | (refine k_bin ?_; first | refine s_lss rfl rfl ?_ | refine s_add1 rfl rfl om ?_) | (refine k_fld ?_; refine s_fldB rfl ?_) | (refine k_idx ?_; refine s_idxS rfl rfl om ?_) | (refine k_call ?_; refine s_len rfl ?_) | refine s_func (v1 := []) (v2 := [.pointer _]) rfl rfl ?_ | refine s_putW (yv := true) rfl rfl rfl trivial om ?_))
    · refine e_lp (i + 1) (by repeat (first | exact trivial | refine ⟨rfl, ?_⟩)) (by omega) (by show _ - _ < _ - _; omega) (PSub.eq ?_)
      rw [setF_put, List.append_assoc, take_nth (by omega)]; rfl
    · have hi' : i = bl.fParams.xs.length := by omega
      subst hi'
      rw [List.take_length]
      refine s_loop (σ := Nat × Nat) (fun s => [(3, .pointer (some ⟨b3, 0, none⟩)), (5, .pointer (some ⟨t, 0, none⟩)), (9, .func (.func 45) #[] #[.pointer (some ⟨t, 0, none⟩)]), (35, .slice bl.fIns.A bl.fIns.xs.length bl.fIns.c), (36, .int .i64 bl.fIns.xs.length), (37, .int .i64 s.1)])
        (fun s => [var 58 t (Mr.mk (some m)), mp EB 3 m s.2 (setF (l ++ bl.fParams.xs ++ dstsB7 (bl.fIns.xs.take s.1))), var 31 b3 bl])
        (fun s => s.1 ≤ bl.fIns.xs.length ∧ s.2 ≤ n1 + bl.fParams.xs.length + s.1 ∧ ∀ j, j < s.1 → (nth bl.fIns.xs j).fArgs.xs.all (· ∈ l ++ bl.fParams.xs ++ dstsB7 (bl.fIns.xs.take j)) = true) (fun s => bl.fIns.xs.length - s.1) (0, n1 + bl.fParams.xs.length) (by repeat (first | exact trivial | refine ⟨rfl, ?_⟩)) ⟨Nat.zero_le _, Nat.le_refl _, fun j hj => absurd hj (Nat.not_lt_zero j)⟩ (PSub.eq (by simp [dstsB7])) ?_
      rintro f ⟨i, q⟩ ⟨hi, hm', hall⟩
      dsimp only at hi hm' hall ⊢
      (repeat' (first | refine s_move ?_ | refine s_nil ?_ | (refine k_C ?_; first | refine s_seq ?_ | refine s_region ?_ | refine s_skip ?_ | refine s_block ?_ | refine s_exit ?_ | (refine s_ifd rfl ?_ ?_ <;> intro hc <;> try (exfalso; omega))) | (refine k_E ?_; first | refine e_seq ?_ | refine e_seq_exit ?_ | refine e_bk_exit ?_ | refine e_lp_exit ?_) | (refine k_load ?_; first | refine s_ldB rfl rfl ?_ | refine s_ldSA rfl rfl om rfl ?_) | (refine k_bin ?_; refine s_lss rfl rfl ?_) | (refine k_fld ?_; refine s_fldB rfl ?_) | (refine k_idx ?_; refine s_idxS rfl rfl om ?_) | (refine k_store ?_; refine s_stW _ rfl rfl ?_) | (refine k_call ?_; refine s_len rfl ?_) | (refine s_alloc ?_; intro b)))
      · refine s_callV [] (captured := [.pointer (some ⟨t, 0, none⟩)]) rfl (used1_spec t m q (l ++ bl.fParams.xs ++ dstsB7 (bl.fIns.xs.take i)) (nth bl.fIns.xs i).fArgs) rfl rfl (fun w1 f1 C => ⟨⟨C.var t, C.map m⟩, C.rd (by infer_instance)⟩) ?_
        rintro r' L' ⟨rfl, rfl⟩
        (repeat' (first | refine s_move ?_ | refine s_assign ?_ | refine s_nil ?_ | (refine k_C ?_; first | refine s_seq ?_ | refine s_region ?_ | refine s_skip ?_ | refine s_ret ?_ | (refine s_ifn rfl ?_ ?_ <;> intro hc <;> try (exfalso; omega)) | (refine s_if rfl ?_ ?_ <;> intro hc)) | (refine k_E ?_; first | refine e_seq ?_ | refine e_seq_ret ?_ | refine e_bk_ret ?_ | refine e_bk ?_ | refine e_lp_ret ?_) | (refine k_load ?_; refine s_ldB rfl rfl ?_) | (refine k_bin ?_; first | refine s_add1 rfl rfl om ?_ | refine s_neq rfl rfl ?_) | (refine k_fld ?_; refine s_fldB rfl ?_) | refine s_putW (yv := true) rfl rfl rfl trivial om ?_ | refine s_not rfl ?_))
        · refine e_done rfl rfl _ (PSub.take [] rfl) ⟨?_, rfl⟩
          show Value.bool false = Value.bool _
          have := usesI_at (l := l ++ bl.fParams.xs) (is := bl.fIns.xs) (i := i) (by omega) (by intro h; rw [h] at hc; cases hc)
          rw [usedB, this]; rfl
        · rename_i hci
          refine e_lp (i + 1, q + 1) (by repeat (first | exact trivial | refine ⟨rfl, ?_⟩)) ⟨by show i + 1 ≤ _; omega, by show q + 1 ≤ _ + (i + 1); omega, fun j hj => ?_⟩ (by show _ - _ < _ - _; omega) (PSub.take [1, 1, 1] ?_)
          · rcases Nat.lt_succ_iff_lt_or_eq.1 (show j < i + 1 from hj) with h | rfl
            · exact hall j h
            · simpa using hci
          · show [_, _, _] = [_, _, _]
            rw [setF_put, List.append_assoc (l ++ bl.fParams.xs), dstsB7_one (by omega) hc]
        · rename_i hci
          refine e_lp (i + 1, q) (by repeat (first | exact trivial | refine ⟨rfl, ?_⟩)) ⟨by show i + 1 ≤ _; omega, by show q ≤ _ + (i + 1); omega, fun j hj => ?_⟩ (by show _ - _ < _ - _; omega) (PSub.take [1, 1, 1] ?_)
          · rcases Nat.lt_succ_iff_lt_or_eq.1 (show j < i + 1 from hj) with h | rfl
            · exact hall j h
            · simpa using hci
          · show [_, _, _] = [_, _, _]
            rw [← dstsB7_none (i := i) (by omega) hc]
      · refine s_loop (σ := Nat) (fun s => [(3, .pointer (some ⟨b3, 0, none⟩)), (5, .pointer (some ⟨t, 0, none⟩)), (9, .func (.func 45) #[] #[.pointer (some ⟨t, 0, none⟩)]), (55, .slice bl.fEnd.fWays.A bl.fEnd.fWays.xs.length bl.fEnd.fWays.c), (56, .int .i64 bl.fEnd.fWays.xs.length), (57, .int .i64 s)])
          (fun s => [var 58 t (Mr.mk (some m)), mp EB 3 m q (setF (l ++ madeB bl)), var 31 b3 bl])
          (fun s => s ≤ bl.fEnd.fWays.xs.length ∧ ∀ j, j < s → (nth bl.fEnd.fWays.xs j).fArgs.xs.all (· ∈ l ++ madeB bl) = true) (fun s => bl.fEnd.fWays.xs.length - s) 0 (by repeat (first | exact trivial | refine ⟨rfl, ?_⟩)) ⟨Nat.zero_le _, fun j hj => absurd hj (Nat.not_lt_zero j)⟩ (PSub.eq ?_) ?_
        · have hi' : i = bl.fIns.xs.length := by omega
          subst hi'
          rw [List.take_length, List.append_assoc]; rfl
        rintro f j ⟨hj, hallw⟩
        (repeat' (first | refine s_move ?_ | refine s_assign ?_ | refine s_nil ?_ | (refine k_C ?_; first | refine s_seq ?_ | refine s_region ?_ | refine s_skip ?_ | refine s_block ?_ | refine s_exit ?_ | refine s_ret ?_ | (refine s_ifd rfl ?_ ?_ <;> intro hc <;> try (exfalso; omega))) | (refine k_E ?_; first | refine e_seq ?_ | refine e_seq_exit ?_ | refine e_bk_exit ?_ | refine e_lp_exit ?_) | (refine k_load ?_; first | refine s_ldB rfl rfl ?_ | refine s_ldSA rfl rfl om rfl ?_) | (refine k_bin ?_; first | refine s_lss rfl rfl ?_ | refine s_eql rfl rfl ?_) | (refine k_fld ?_; refine s_fldB rfl ?_) | (refine k_idx ?_; refine s_idxS rfl rfl om ?_) | (refine k_store ?_; refine s_stW _ rfl rfl ?_) | (refine k_guard ?_; first | refine s_on rfl rfl ?_ | refine s_off rfl rfl rfl rfl ?_ | (refine s_casesd rfl rfl ?_ ?_ <;> intro hc <;> try (exfalso; omega))) | refine s_lookW rfl rfl ?_ | (refine s_alloc ?_; intro b) | refine s_pick rfl ?_))
        · refine s_callV [] (captured := [.pointer (some ⟨t, 0, none⟩)]) rfl (used1_spec t m q (l ++ madeB bl) (nth bl.fEnd.fWays.xs j).fArgs) rfl rfl (fun w1 f1 C => ⟨⟨C.var t, C.map m⟩, C.rd (by infer_instance)⟩) ?_
          rintro r' L' ⟨rfl, rfl⟩
          (repeat' (first | refine s_move ?_ | refine s_assign ?_ | refine s_nil ?_ | (refine k_C ?_; first | refine s_seq ?_ | refine s_region ?_ | refine s_skip ?_ | refine s_ret ?_ | (refine s_if rfl ?_ ?_ <;> intro hc)) | (refine k_E ?_; first | refine e_seq ?_ | refine e_seq_ret ?_ | refine e_bk_ret ?_ | refine e_bk ?_ | refine e_lp_ret ?_) | (refine k_bin ?_; refine s_add1 rfl rfl om ?_) | refine s_not rfl ?_))
          · refine e_done rfl rfl _ (PSub.take [] rfl) ⟨?_, rfl⟩
            show Value.bool false = Value.bool _
            have : (bl.fEnd.fWays.xs.all fun w => w.fArgs.xs.all (· ∈ l ++ madeB bl)) = false := by
              rw [List.all_eq_false]
              exact ⟨_, nth_mem (i := j) (by omega), by intro h; rw [h] at hc; cases hc⟩
            rw [usedB, this]; simp
          · refine e_lp (j + 1) (by repeat (first | exact trivial | refine ⟨rfl, ?_⟩)) ⟨by show j + 1 ≤ _; omega, fun k hk => ?_⟩ (by show _ - _ < _ - _; omega) (PSub.take [1, 1, 1] rfl)
            rcases Nat.lt_succ_iff_lt_or_eq.1 (show k < j + 1 from hk) with h | rfl
            · exact hallw k h
            · simpa using hc
        all_goals
          have hu : usesI (l ++ bl.fParams.xs) bl.fIns.xs = true := usesI_all fun k hk => hall k (by omega)
          have hw : (bl.fEnd.fWays.xs.all fun w => w.fArgs.xs.all (· ∈ l ++ madeB bl)) = true := by
            rw [List.all_eq_true]
            intro x hx
            obtain ⟨k, hk, rfl⟩ := List.mem_iff_getElem.1 hx
            rw [← nth_get hk]
            exact hallw k (by omega)
          refine e_done rfl rfl _ (PSub.take [] rfl) ⟨?_, rfl⟩
          rw [usedB, hu, hw]
        · show Value.bool true = _
          simp [hc]
        · show Value.bool ((setF (l ++ madeB bl) bl.fEnd.fVal).getD false) = _
          rw [setF_get]
          simp [hc]
  · haveI : RdD (okOf w0 f0) w0 k := ⟨hk⟩
    dsimp only at hlt ⊢
    (repeat' (first | refine s_nil ?_ | (refine k_C ?_; first | refine s_seq ?_ | refine s_region ?_ | refine s_skip ?_ | refine s_block ?_ | refine s_ift rfl ?_) | (refine k_E ?_; refine e_seq ?_) | refine s_extract rfl rfl ?_))
    refine s_entryS hM rfl ?_
    (repeat' (first | refine s_move ?_ | refine s_assign ?_ | refine s_nil ?_ | (refine k_C ?_; refine s_region ?_) | (refine k_E ?_; first | refine e_seq ?_ | refine e_bk ?_) | (refine k_load ?_; refine s_ldB rfl rfl ?_) | refine s_putW (yv := true) rfl rfl rfl trivial om ?_ | refine s_extract rfl rfl ?_))
    refine e_lp (fun j => todo j && j != k, cnt', n1 + 1) (by repeat (first | exact trivial | refine ⟨rfl, ?_⟩)) (by show n1 + 1 + cnt' ≤ N; omega) hlt (PSub.eq ?_)
    rw [doneF_step hF]
end Go.Proofs.Ytfplmdjlgjgbgaa
