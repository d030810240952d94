/- Layer 15: touch, all, walked. -/
import Derived.Test.YtfplmdjlgjgbgaaV16
namespace Go.Proofs.Ytfplmdjlgjgbgaa
set_option linter.unusedVariables false
set_option linter.unusedSimpArgs false
open Go Go.RowKit

/-- What a place of a block does to a value: 1 uses it, 2 makes it, 0 neither. -/
def touchB (b : SsaBlock) (k : Nat) (v : Int) : Nat :=
  if k < b.fIns.xs.length then (if v ∈ (nth b.fIns.xs k).fArgs.xs then 1 else if (nth b.fIns.xs k).fDst = v then 2 else 0)
  else if b.fEnd.fVal = v ∨ ∃ w ∈ b.fEnd.fWays.xs, v ∈ w.fArgs.xs then 1 else 0
theorem mem_of_nth {l : List Int} {j : Nat} (hj : j < l.length) {v : Int} (h : nth l j = v) : v ∈ l := h ▸ nth_mem hj
theorem not_mem_of {l : List Int} {v : Int} (h : ∀ m, m < l.length → nth l m ≠ v) : v ∉ l := fun hm => by
  obtain ⟨m, hm, e⟩ := List.getElem_of_mem hm
  exact h m hm ((nth_get hm).trans e)
set_option maxHeartbeats 4000000 in
theorem touch15_spec (b : SsaBlock) (hb : OkB b) (hwa : ∀ m, m < b.fEnd.fWays.xs.length → (nth b.fEnd.fWays.xs m).fArgs.xs.length ≤ 1000) (k : Nat) (v : Int) : Spec Try.prog 25 [.agg (Enc.enc b).toArray, .int .i64 (k : Nat), .int .i64 v] [] (fun ok w => RdD ok w b) fun r L' => r = .int .i64 (touchB b k v : Nat) ∧ L' = [] := by
  refine spec_of Try.func25 rfl rfl fun w0 f0 hR => ?_
  have hbi := hb.i
  have hbw := hb.w
  have hba := hb.a k
  (repeat' (first | refine s_move ?_ | refine s_assign ?_ | refine s_nil ?_ | (refine k_C ?_; first | refine s_seq ?_ | refine s_region ?_ | refine s_skip ?_ | refine s_block ?_ | refine s_ret ?_ | (refine s_ifd rfl ?_ ?_ <;> intro hc <;> try (exfalso; omega))) | (refine k_E ?_; first | refine e_seq ?_ | refine e_seq_ret ?_) | (refine k_load ?_; first | refine s_ldB rfl rfl ?_ | refine s_ldSF rfl rfl om rfl ?_) | (refine k_bin ?_; first | refine s_lss rfl rfl ?_ | refine s_eql rfl rfl ?_) | (refine k_fld ?_; first | refine s_fld rfl ?_ | refine s_fldB rfl ?_) | (refine k_idx ?_; refine s_idxS rfl rfl om ?_) | (refine k_call ?_; refine s_len rfl ?_) | (refine s_box _ rfl ?_; intro b)))
  · rename Nat => b3
    have hk : k < b.fIns.xs.length := by omega
    have hal := hba hk
    refine s_loop (σ := Nat) (fun j => [(1, .int .i64 (k : Nat)), (2, .int .i64 v), (3, .pointer (some ⟨b3, 0, none⟩)), (23, .slice (nth b.fIns.xs k).fArgs.A (nth b.fIns.xs k).fArgs.xs.length (nth b.fIns.xs k).fArgs.c), (24, .int .i64 (nth b.fIns.xs k).fArgs.xs.length), (25, .int .i64 (j : Nat))]) (fun _ => [var 31 b3 b])
      (fun j => j ≤ (nth b.fIns.xs k).fArgs.xs.length ∧ ∀ m, m < j → nth (nth b.fIns.xs k).fArgs.xs m ≠ v) (fun j => (nth b.fIns.xs k).fArgs.xs.length - j) 0 (by repeat (first | exact trivial | refine ⟨rfl, ?_⟩)) ⟨Nat.zero_le _, fun m hm => absurd hm (Nat.not_lt_zero m)⟩ PSub.refl ?_
    rintro g j ⟨hj, hjn⟩
    (repeat' (first | refine s_nil ?_ | (refine k_C ?_; first | refine s_seq ?_ | refine s_region ?_) | (refine k_E ?_; refine e_seq ?_) | (refine k_bin ?_; refine s_lss rfl rfl ?_)))
    (first | (refine k_C ?_; (refine s_ifd rfl ?_ ?_ <;> intro hc <;> try (exfalso; omega))))
    · have hjl : j < (nth b.fIns.xs k).fArgs.xs.length := by omega
      (repeat' (first | refine s_move ?_ | refine s_assign ?_ | refine s_nil ?_ | (refine k_C ?_; first | refine s_seq ?_ | refine s_region ?_ | refine s_skip ?_ | refine s_block ?_ | refine s_ret ?_ | (refine s_ifd rfl ?_ ?_ <;> intro hc <;> try (exfalso; omega))) | (refine k_E ?_; first | refine e_seq ?_ | refine e_seq_ret ?_ | refine e_bk_ret ?_ | refine e_bk ?_ | refine e_lp_ret ?_) | (refine k_load ?_; refine s_ldS rfl rfl om rfl ?_) | (refine k_bin ?_; first | refine s_add1 rfl rfl om ?_ | refine s_eql rfl rfl ?_) | (refine k_idx ?_; refine s_idxS rfl rfl om ?_)))
      · exact e_done rfl rfl [] (PSub.take [] rfl) ⟨by unfold touchB; rw [if_pos hk, if_pos (mem_of_nth hjl (by assumption))]; rfl, rfl⟩
      · exact e_lp (j + 1) (by repeat (first | exact trivial | refine ⟨rfl, ?_⟩)) ⟨by show j + 1 ≤ _; omega, fun m hm => by
          rcases Nat.lt_or_ge m j with h | h
          · exact hjn m h
          · obtain rfl : m = j := by have : m < j + 1 := hm; omega
            assumption⟩ (by show _ - _ < _ - _; omega) PSub.refl
    have hno : v ∉ (nth b.fIns.xs k).fArgs.xs := not_mem_of fun m hm => hjn m (by omega)
    (repeat' (first | refine s_move ?_ | refine s_assign ?_ | refine s_nil ?_ | (refine k_C ?_; first | refine s_seq ?_ | refine s_region ?_ | refine s_skip ?_ | refine s_exit ?_ | refine s_ret ?_ | (refine s_ifd rfl ?_ ?_ <;> intro hc <;> try (exfalso; omega))) | (refine k_E ?_; first | refine e_seq ?_ | refine e_seq_ret ?_ | refine e_seq_exit ?_ | refine e_bk_exit ?_ | refine e_lp_exit ?_) | (refine k_load ?_; first | refine s_ldB rfl rfl ?_ | refine s_ldSF rfl rfl om rfl ?_) | (refine k_bin ?_; refine s_eql rfl rfl ?_) | (refine k_fld ?_; first | refine s_fld rfl ?_ | refine s_fldB rfl ?_) | (refine k_idx ?_; refine s_idxS rfl rfl om ?_)))
    · exact e_done rfl rfl [] (PSub.take [] rfl) ⟨by unfold touchB; rw [if_pos hk, if_neg hno, if_pos (by assumption)]; rfl, rfl⟩
    · exact e_done rfl rfl [] (PSub.take [] rfl) ⟨by unfold touchB; rw [if_pos hk, if_neg hno, if_neg (by assumption)]; rfl, rfl⟩
  · exact e_done rfl rfl [] (PSub.take [] rfl) ⟨by unfold touchB; rw [if_neg (by omega), if_pos (.inl (by assumption))]; rfl, rfl⟩
  rename Nat => b3
  have hk : ¬ k < b.fIns.xs.length := by omega
  have hval : ¬ b.fEnd.fVal = v := by assumption
  refine s_loop (σ := Nat) (fun j => [(1, .int .i64 (k : Nat)), (2, .int .i64 v), (3, .pointer (some ⟨b3, 0, none⟩)), (48, .slice b.fEnd.fWays.A b.fEnd.fWays.xs.length b.fEnd.fWays.c), (49, .int .i64 b.fEnd.fWays.xs.length), (50, .int .i64 (j : Nat))]) (fun _ => [var 31 b3 b])
    (fun j => j ≤ b.fEnd.fWays.xs.length ∧ ∀ m, m < j → v ∉ (nth b.fEnd.fWays.xs m).fArgs.xs) (fun j => b.fEnd.fWays.xs.length - j) 0 (by repeat (first | exact trivial | refine ⟨rfl, ?_⟩)) ⟨Nat.zero_le _, fun m hm => absurd hm (Nat.not_lt_zero m)⟩ PSub.refl ?_
  rintro g j ⟨hj, hjn⟩
  (repeat' (first | refine s_nil ?_ | (refine k_C ?_; first | refine s_seq ?_ | refine s_region ?_) | (refine k_E ?_; refine e_seq ?_) | (refine k_bin ?_; refine s_lss rfl rfl ?_)))
  (first | (refine k_C ?_; (refine s_ifd rfl ?_ ?_ <;> intro hc <;> try (exfalso; omega))))
  rotate_left
  · have hno : ¬ (b.fEnd.fVal = v ∨ ∃ w ∈ b.fEnd.fWays.xs, v ∈ w.fArgs.xs) := by
      rintro (h | ⟨w, hw, h⟩)
      · exact hval h
      · obtain ⟨m, hm, rfl⟩ := List.getElem_of_mem hw
        rw [← nth_get hm] at h
        exact hjn m (by omega) h
    (repeat' (first | refine s_assign ?_ | refine s_nil ?_ | (refine k_C ?_; first | refine s_seq ?_ | refine s_region ?_ | refine s_exit ?_ | refine s_ret ?_) | (refine k_E ?_; first | refine e_seq ?_ | refine e_seq_exit ?_ | refine e_bk_exit ?_ | refine e_lp_exit ?_)))
    exact e_done rfl rfl [] (PSub.take [] rfl) ⟨by unfold touchB; rw [if_neg hk, if_neg hno]; rfl, rfl⟩
  have hjl : j < b.fEnd.fWays.xs.length := by omega
  have hwl := hwa j hjl
  (repeat' (first | refine s_move ?_ | refine s_nil ?_ | (refine k_C ?_; first | refine s_seq ?_ | refine s_region ?_ | refine s_skip ?_ | refine s_block ?_) | (refine k_E ?_; refine e_seq ?_) | (refine k_load ?_; first | refine s_ldB rfl rfl ?_ | refine s_ldSA rfl rfl om rfl ?_) | (refine k_fld ?_; refine s_fldB rfl ?_) | (refine k_idx ?_; refine s_idxS rfl rfl om ?_) | (refine k_store ?_; refine s_stW _ rfl rfl ?_) | (refine k_call ?_; refine s_len rfl ?_) | (refine s_alloc ?_; intro b)))
  rename Nat => b10
  refine s_loop (σ := Nat) (fun i => [(1, .int .i64 (k : Nat)), (2, .int .i64 v), (3, .pointer (some ⟨b3, 0, none⟩)), (48, .slice b.fEnd.fWays.A b.fEnd.fWays.xs.length b.fEnd.fWays.c), (49, .int .i64 b.fEnd.fWays.xs.length), (50, .int .i64 (j : Nat)), (55, .slice (nth b.fEnd.fWays.xs j).fArgs.A (nth b.fEnd.fWays.xs j).fArgs.xs.length (nth b.fEnd.fWays.xs j).fArgs.c), (56, .int .i64 (nth b.fEnd.fWays.xs j).fArgs.xs.length), (57, .int .i64 (i : Nat))]) (fun _ => [var 57 b10 (nth b.fEnd.fWays.xs j), var 31 b3 b])
    (fun i => i ≤ (nth b.fEnd.fWays.xs j).fArgs.xs.length ∧ ∀ m, m < i → nth (nth b.fEnd.fWays.xs j).fArgs.xs m ≠ v) (fun i => (nth b.fEnd.fWays.xs j).fArgs.xs.length - i) 0 (by repeat (first | exact trivial | refine ⟨rfl, ?_⟩)) ⟨Nat.zero_le _, fun m hm => absurd hm (Nat.not_lt_zero m)⟩ PSub.refl ?_
  rintro g i ⟨hi, hin⟩
  (repeat' (first | refine s_nil ?_ | (refine k_C ?_; first | refine s_seq ?_ | refine s_region ?_) | (refine k_E ?_; refine e_seq ?_) | (refine k_bin ?_; refine s_lss rfl rfl ?_)))
  (first | (refine k_C ?_; (refine s_ifd rfl ?_ ?_ <;> intro hc <;> try (exfalso; omega))))
  rotate_left
  · have hno : v ∉ (nth b.fEnd.fWays.xs j).fArgs.xs := not_mem_of fun m hm => hin m (by omega)
    (repeat' (first | refine s_move ?_ | refine s_nil ?_ | (refine k_C ?_; first | refine s_region ?_ | refine s_exit ?_) | (refine k_E ?_; first | refine e_seq ?_ | refine e_seq_exit ?_ | refine e_bk_exit ?_ | refine e_bk ?_ | refine e_lp_exit ?_) | (refine k_bin ?_; refine s_add1 rfl rfl om ?_)))
    exact e_lp (j + 1) (by repeat (first | exact trivial | refine ⟨rfl, ?_⟩)) ⟨by show j + 1 ≤ _; omega, fun m hm => by
      rcases Nat.lt_or_ge m j with h | h
      · exact hjn m h
      · obtain rfl : m = j := by have : m < j + 1 := hm; omega
        exact hno⟩ (by show _ - _ < _ - _; omega) (PSub.take [1] rfl)
  have hil : i < (nth b.fEnd.fWays.xs j).fArgs.xs.length := by omega
  (repeat' (first | refine s_move ?_ | refine s_assign ?_ | refine s_nil ?_ | (refine k_C ?_; first | refine s_seq ?_ | refine s_region ?_ | refine s_skip ?_ | refine s_block ?_ | refine s_ret ?_ | (refine s_ifd rfl ?_ ?_ <;> intro hc <;> try (exfalso; omega))) | (refine k_E ?_; first | refine e_seq ?_ | refine e_seq_ret ?_ | refine e_bk_ret ?_ | refine e_bk ?_ | refine e_lp_ret ?_) | (refine k_load ?_; refine s_ldS rfl rfl om rfl ?_) | (refine k_bin ?_; first | refine s_add1 rfl rfl om ?_ | refine s_eql rfl rfl ?_) | (refine k_idx ?_; refine s_idxS rfl rfl om ?_)))
  · exact e_done rfl rfl [] (PSub.take [] rfl) ⟨by unfold touchB; rw [if_neg hk, if_pos (.inr ⟨_, nth_mem hjl, mem_of_nth hil (by assumption)⟩)]; rfl, rfl⟩
  · exact e_lp (i + 1) (by repeat (first | exact trivial | refine ⟨rfl, ?_⟩)) ⟨by show i + 1 ≤ _; omega, fun m hm => by
      rcases Nat.lt_or_ge m i with h | h
      · exact hin m h
      · obtain rfl : m = i := by have : m < i + 1 := hm; omega
        assumption⟩ (by show _ - _ < _ - _; omega) PSub.refl
theorem madeAll_succ {bs : List SsaBlock} {i : Nat} (h : i < bs.length) : madeAll (bs.take (i + 1)) = madeAll (bs.take i) ++ ((nth bs i).fParams.xs ++ dstsB7 ((nth bs i).fIns.xs.take (nth bs i).fIns.xs.length)) := by
  rw [← take_nth h, madeAll_app, List.take_length]; simp [madeAll, madeB]
set_option maxHeartbeats 4000000 in
theorem all15_spec (f : SsaFunc) (hf : OkF f) : Spec Try.prog 13 [.agg (Enc.enc f).toArray] [] (fun ok w => RdD ok w f) fun r L' => ∃ A c, r = .slice A (madeAll f.fBlocks.xs).length c ∧ L' = [own 3 A (madeAll f.fBlocks.xs).length c (madeAll f.fBlocks.xs)] := by
  refine spec_of Try.func13 rfl rfl fun w0 f0 hR => ?_
  have hfb := hf.b
  (repeat' (first | refine s_move ?_ | refine s_assign ?_ | refine s_nil ?_ | (refine k_C ?_; first | refine s_seq ?_ | refine s_region ?_ | refine s_block ?_) | (refine k_E ?_; refine e_seq ?_) | (refine k_load ?_; refine s_ldB rfl rfl ?_) | (refine k_fld ?_; refine s_fldB rfl ?_) | (refine k_call ?_; refine s_len rfl ?_) | (refine s_box _ rfl ?_; intro b) | (refine s_lit [] rfl (by decide) rfl ?_; intro b)))
  rename_i b1
  obtain ⟨b8, rfl⟩ : ∃ q, q = b := ⟨_, rfl⟩
  refine s_loop (σ := Nat × Nat × Option Addr × Nat × List Int) (fun z => [(1, .pointer (some ⟨b1, 0, none⟩)), (3, .slice z.2.2.1 z.2.1 z.2.2.2.1), (10, .slice f.fBlocks.A f.fBlocks.xs.length f.fBlocks.c), (11, .int .i64 f.fBlocks.xs.length), (12, .int .i64 (z.1 : Nat))])
    (fun z => [own 3 z.2.2.1 z.2.1 z.2.2.2.1 z.2.2.2.2, var 38 b1 f]) (fun z => z.1 ≤ f.fBlocks.xs.length ∧ z.2.1 = z.2.2.2.2.length ∧ z.2.1 ≤ 2000 * z.1 ∧ z.2.2.2.2 = madeAll (f.fBlocks.xs.take z.1)) (fun z => f.fBlocks.xs.length - z.1) (0, 0, some ⟨b8, 0, none⟩, 0, []) (by repeat (first | exact trivial | refine ⟨rfl, ?_⟩)) ⟨Nat.zero_le _, rfl, Nat.le_refl _, rfl⟩ PSub.refl ?_
  rintro g ⟨i, l, A, c, xs⟩ ⟨hi, hl, hll, hx⟩
  dsimp only at hi hl hll hx ⊢
  (repeat' (first | refine s_nil ?_ | (refine k_C ?_; first | refine s_seq ?_ | refine s_region ?_) | (refine k_E ?_; refine e_seq ?_) | (refine k_bin ?_; refine s_lss rfl rfl ?_)))
  (first | (refine k_C ?_; (refine s_ifd rfl ?_ ?_ <;> intro hc <;> try (exfalso; omega))))
  rotate_left
  · have hiE : i = f.fBlocks.xs.length := by omega
    subst hiE
    rw [List.take_length] at hx
    subst hl
    subst hx
    (repeat' (first | refine s_move ?_ | refine s_assign ?_ | refine s_nil ?_ | (refine k_C ?_; first | refine s_seq ?_ | refine s_region ?_ | refine s_exit ?_ | refine s_ret ?_) | (refine k_E ?_; first | refine e_seq ?_ | refine e_seq_exit ?_ | refine e_bk_exit ?_ | refine e_lp_exit ?_)))
    exact e_done rfl rfl _ (PSub.take [0] rfl) ⟨A, c, rfl, rfl⟩
  have hin : i < f.fBlocks.xs.length := by omega
  have hbk := hf.k i hin
  have hbp := hbk.p
  have hbi := hbk.i
  (repeat' (first | refine s_move ?_ | refine s_assign ?_ | refine s_nil ?_ | (refine k_C ?_; first | refine s_seq ?_ | refine s_region ?_ | refine s_skip ?_ | refine s_block ?_) | (refine k_E ?_; refine e_seq ?_) | (refine k_load ?_; first | refine s_ldB rfl rfl ?_ | refine s_ldSA rfl rfl om rfl ?_) | (refine k_fld ?_; refine s_fldB rfl ?_) | (refine k_idx ?_; refine s_idxS rfl rfl om ?_) | (refine k_store ?_; refine s_stW _ rfl rfl ?_) | (refine k_call ?_; first | refine s_len rfl ?_ | (refine s_appS rfl rfl om ?_; intro A c)) | (refine s_alloc ?_; intro b)))
  obtain ⟨b5, rfl⟩ : ∃ q, q = b := ⟨_, rfl⟩
  refine s_loop (σ := Nat × Nat × Option Addr × Nat × List Int) (fun z => [(1, .pointer (some ⟨b1, 0, none⟩)), (3, .slice z.2.2.1 z.2.1 z.2.2.2.1), (10, .slice f.fBlocks.A f.fBlocks.xs.length f.fBlocks.c), (11, .int .i64 f.fBlocks.xs.length), (12, .int .i64 (i : Nat)), (21, .slice (nth f.fBlocks.xs i).fIns.A (nth f.fBlocks.xs i).fIns.xs.length (nth f.fBlocks.xs i).fIns.c), (22, .int .i64 (nth f.fBlocks.xs i).fIns.xs.length), (23, .int .i64 (z.1 : Nat))])
    (fun z => [own 3 z.2.2.1 z.2.1 z.2.2.2.1 z.2.2.2.2, var 31 b5 (nth f.fBlocks.xs i), var 38 b1 f]) (fun z => z.1 ≤ (nth f.fBlocks.xs i).fIns.xs.length ∧ z.2.1 = z.2.2.2.2.length ∧ z.2.1 ≤ 2000 * i + 1000 + z.1 ∧ z.2.2.2.2 = madeAll (f.fBlocks.xs.take i) ++ ((nth f.fBlocks.xs i).fParams.xs ++ dstsB7 ((nth f.fBlocks.xs i).fIns.xs.take z.1))) (fun z => (nth f.fBlocks.xs i).fIns.xs.length - z.1) (0, l + (nth f.fBlocks.xs i).fParams.xs.length, A, c, xs ++ (nth f.fBlocks.xs i).fParams.xs) (by repeat (first | exact trivial | refine ⟨rfl, ?_⟩)) ⟨Nat.zero_le _, by show _ = (xs ++ _).length; rw [List.length_append, hl], by show l + _ ≤ _; omega, by show xs ++ _ = _; rw [hx, List.take_zero]; simp [dstsB7]⟩ (PSub.take [1, 0, 0] rfl) ?_
  rintro g2 ⟨j, l2, A2, c2, xs2⟩ ⟨hj, hl2, hll2, hx2⟩
  dsimp only at hj hl2 hll2 hx2 ⊢
  (repeat' (first | refine s_nil ?_ | (refine k_C ?_; first | refine s_seq ?_ | refine s_region ?_) | (refine k_E ?_; refine e_seq ?_) | (refine k_bin ?_; refine s_lss rfl rfl ?_)))
  (first | (refine k_C ?_; (refine s_ifd rfl ?_ ?_ <;> intro hc <;> try (exfalso; omega))))
  rotate_left
  · have hjE : j = (nth f.fBlocks.xs i).fIns.xs.length := by omega
    subst hjE
    (repeat' (first | refine s_move ?_ | refine s_nil ?_ | (refine k_C ?_; first | refine s_region ?_ | refine s_exit ?_) | (refine k_E ?_; first | refine e_seq ?_ | refine e_seq_exit ?_ | refine e_bk_exit ?_ | refine e_bk ?_ | refine e_lp_exit ?_) | (refine k_bin ?_; refine s_add1 rfl rfl om ?_)))
    exact e_lp (i + 1, l2, A2, c2, xs2) (by repeat (first | exact trivial | refine ⟨rfl, ?_⟩)) ⟨by show i + 1 ≤ _; omega, hl2, by show l2 ≤ 2000 * (i + 1); omega, by show xs2 = _; rw [hx2, madeAll_succ hin]⟩ (by show _ - _ < _ - _; omega) (PSub.take [0, 1] rfl)
  have hjn : j < (nth f.fBlocks.xs i).fIns.xs.length := by omega
  (repeat' (first | refine s_move ?_ | refine s_assign ?_ | refine s_nil ?_ | (refine k_C ?_; first | refine s_seq ?_ | refine s_region ?_ | refine s_skip ?_ | refine s_block ?_ | (refine s_ifn rfl ?_ ?_ <;> intro hc <;> try (exfalso; omega))) | (refine k_E ?_; first | refine e_seq ?_ | refine e_bk ?_) | (refine k_load ?_; first | refine s_ldB rfl rfl ?_ | refine s_ldSA rfl rfl om rfl ?_) | (refine k_bin ?_; first | refine s_add1 rfl rfl om ?_ | refine s_neq rfl rfl ?_) | (refine k_fld ?_; refine s_fldB rfl ?_) | (refine k_idx ?_; refine s_idxS rfl rfl om ?_) | (refine k_store ?_; refine s_stW _ rfl rfl ?_) | (refine s_alloc ?_; intro b) | (refine s_app1 _ (fun _ => rfl) rfl om ?_; intro v A c)))
  · exact e_lp (j + 1, l2 + 1, A, c, xs2 ++ [(nth (nth f.fBlocks.xs i).fIns.xs j).fDst]) (by repeat (first | exact trivial | refine ⟨rfl, ?_⟩)) ⟨by show j + 1 ≤ _; omega, by show _ = (xs2 ++ [_]).length; rw [List.length_append, hl2]; rfl, by show l2 + 1 ≤ _ + (j + 1); omega, by
      show xs2 ++ [_] = _ ++ (_ ++ dstsB7 ((nth f.fBlocks.xs i).fIns.xs.take (j + 1)))
      rw [hx2, ← dstsB7_one hjn (by assumption)]; simp⟩ (by show _ - _ < _ - _; omega) (PSub.take [1, 1, 1] rfl)
  · exact e_lp (j + 1, l2, A2, c2, xs2) (by repeat (first | exact trivial | refine ⟨rfl, ?_⟩)) ⟨by show j + 1 ≤ _; omega, hl2, by show l2 ≤ _ + (j + 1); omega, by
      show xs2 = _ ++ (_ ++ dstsB7 ((nth f.fBlocks.xs i).fIns.xs.take (j + 1)))
      rw [hx2, ← dstsB7_none hjn (by assumption)]⟩ (by show _ - _ < _ - _; omega) (PSub.take [1, 1, 1] rfl)
section
open Go Go.RowKit

/-- The first place from k on that does something to a value. -/
def scanB (b : SsaBlock) (v : Int) (k : Nat) : Nat := (((List.range' k (b.fIns.xs.length + 1 - k)).map fun j => touchB b j v).find? fun x => decide (x ≠ 0)).getD 0
theorem scanB_step {b : SsaBlock} {v : Int} {k : Nat} (h : k ≤ b.fIns.xs.length) : scanB b v k = if touchB b k v = 0 then scanB b v (k + 1) else touchB b k v := by
  unfold scanB
  rw [show b.fIns.xs.length + 1 - k = (b.fIns.xs.length + 1 - (k + 1)) + 1 by omega, List.range'_succ, List.map_cons, List.find?_cons]
  by_cases h0 : touchB b k v = 0
  · rw [if_pos h0]; simp [h0]
  · rw [if_neg h0]; simp [h0]
theorem scanB_end {b : SsaBlock} {v : Int} : scanB b v (b.fIns.xs.length + 1) = 0 := by
  unfold scanB
  rw [Nat.sub_self]; rfl
theorem usesE_mem {e : SsaEnd} {v : Int} (hv : v ≠ 0) : v ∈ usesE e ↔ e.fVal = v ∨ ∃ w ∈ e.fWays.xs, v ∈ w.fArgs.xs := by
  unfold usesE
  rw [List.mem_append, List.mem_flatMap]
  constructor
  · rintro (h | h)
    · split at h
      · rw [List.mem_singleton] at h; exact .inl h.symm
      · cases h
    · exact .inr h
  · rintro (h | h)
    · refine .inl ?_
      rw [if_pos (by rw [h]; exact hv), h]
      simp
    · exact .inr h
theorem scan_live {b : SsaBlock} {v : Int} {out : Int → Bool} (hv : v ≠ 0) : ∀ d k, k + d = b.fIns.xs.length → (liveB b out k v = true ↔ scanB b v k = 1 ∨ scanB b v k = 0 ∧ out v = true)
  | 0, k, hd => by
    obtain rfl : k = b.fIns.xs.length := by omega
    rw [scanB_step (Nat.le_refl _), scanB_end, liveB_end]
    unfold touchB addL
    rw [if_neg (Nat.lt_irrefl _), Bool.or_eq_true, decide_eq_true_eq, usesE_mem hv]
    by_cases h : b.fEnd.fVal = v ∨ ∃ w ∈ b.fEnd.fWays.xs, v ∈ w.fArgs.xs
    · rw [if_pos h]; simp [h]
    · rw [if_neg h]; simp [h]
  | d + 1, k, hd => by
    have ih := scan_live (b := b) (out := out) hv d (k + 1) (by omega)
    have ht : touchB b k v = if v ∈ (nth b.fIns.xs k).fArgs.xs then 1 else if (nth b.fIns.xs k).fDst = v then 2 else 0 := by
      unfold touchB; rw [if_pos (by omega)]
    rw [scanB_step (by omega), liveB_step (by omega), ht]
    unfold stepI addL
    rw [Bool.or_eq_true, decide_eq_true_eq, Bool.and_eq_true, ih]
    by_cases h1 : v ∈ (nth b.fIns.xs k).fArgs.xs
    · simp [h1]
    · by_cases h2 : (nth b.fIns.xs k).fDst = v
      · simp [h1, h2]
      · have h3 : ¬ v = (nth b.fIns.xs k).fDst := fun e => h2 e.symm
        simp [h1, h2, h3]
/-- A search for a use: the ways gone of each block, what is seen, what is still to be gone on from, what was gone on from. -/
structure Sk (f : SsaFunc) (O : Nat → Int → Bool) (v : Int) (n : Nat) (W : Nat → List SsaEdge) (seen : List Bool) (q : List Int) (P : Nat → Prop) : Prop where
  sl : seen.length = f.fBlocks.xs.length
  qr : ∀ x ∈ q, 0 ≤ x ∧ x < f.fBlocks.xs.length ∧ (O x.toNat v = true → O n v = true)
  pop : ∀ x, P x → x < f.fBlocks.xs.length ∧ ∀ w ∈ W x, nth seen w.fTo.toNat = true
  dead : ∀ t, t < f.fBlocks.xs.length → nth seen t = true → v ∈ (nth f.fBlocks.xs t).fParams.xs ∨ scanB (nth f.fBlocks.xs t) v 0 = 2 ∨ scanB (nth f.fBlocks.xs t) v 0 = 0 ∧ (P t ∨ (t : Int) ∈ q)
  st : P n ∨ (n : Int) ∈ q
def waysQ (f : SsaFunc) (x : Nat) : List SsaEdge := (nth f.fBlocks.xs x).fEnd.fWays.xs
section
variable {f : SsaFunc} {I O : Nat → Int → Bool} {v : Int} {n : Nat} {W : Nat → List SsaEdge} {seen : List Bool} {q : List Int} {P : Nat → Prop}
theorem Sk.start (hn : n < f.fBlocks.xs.length) : Sk f O v n (waysQ f) (List.replicate f.fBlocks.xs.length false) [(n : Int)] fun _ => False :=
  ⟨List.length_replicate, fun x hx => by rw [List.mem_singleton] at hx; subst hx; exact ⟨by omega, by omega, id⟩, fun x hx => hx.elim, fun t ht hs => by
    have e : nth (List.replicate f.fBlocks.xs.length false) t = false := nth_rep
    rw [e] at hs
    exact absurd hs (by simp), .inr (by simp)⟩
theorem Sk.go {x : Int} (h : Sk f O v n W seen (x :: q) P) : Sk f O v n (updB W x.toNat []) seen q fun y => P y ∨ y = x.toNat := by
  obtain ⟨h1, h2, h3⟩ := h.qr x (by simp)
  have hx : (x.toNat : Int) = x := by omega
  refine ⟨h.sl, fun y hy => h.qr y (by simp [hy]), fun y hy => ?_, fun t ht hs => ?_, ?_⟩
  · by_cases e : y = x.toNat
    · subst e
      rw [updB_same]
      exact ⟨by omega, fun w hw => nomatch hw⟩
    · unfold updB
      rw [if_neg e]
      exact h.pop y (hy.resolve_right e)
  · rcases h.dead t ht hs with g | g | ⟨g, g2⟩
    · exact .inl g
    · exact .inr (.inl g)
    · refine .inr (.inr ⟨g, ?_⟩)
      rcases g2 with g2 | g2
      · exact .inl (.inl g2)
      · rcases List.mem_cons.1 g2 with g2 | g2
        · exact .inl (.inr (by omega))
        · exact .inr g2
  · rcases h.st with g2 | g2
    · exact .inl (.inl g2)
    · rcases List.mem_cons.1 g2 with g2 | g2
      · exact .inl (.inr (by omega))
      · exact .inr g2
theorem Sk.skip {W0 : Nat → List SsaEdge} {x j : Nat} (h : Sk f O v n (updB W0 x ((waysQ f x).take j)) seen q P) (hj : j < (waysQ f x).length) (hs : nth seen (nth (waysQ f x) j).fTo.toNat = true) : Sk f O v n (updB W0 x ((waysQ f x).take (j + 1))) seen q P := by
  refine ⟨h.sl, h.qr, fun y hy => ?_, h.dead, h.st⟩
  obtain ⟨h1, h2⟩ := h.pop y hy
  refine ⟨h1, fun w hw => ?_⟩
  by_cases e : y = x
  · subst e
    rw [updB_same] at hw h2
    rw [← take_nth hj] at hw
    rcases List.mem_append.1 hw with hw | hw
    · exact h2 w hw
    · rw [List.mem_singleton] at hw
      rw [hw]; exact hs
  · unfold updB at hw h2
    rw [if_neg e] at hw h2
    exact h2 w hw
/-- A block is seen. -/
theorem Sk.see {t : Nat} {q' : List Int} (h : Sk f O v n W seen q P) (ht : t < f.fBlocks.xs.length) (hq : q' = q ∨ q' = q ++ [(t : Int)]) (hqt : q' = q ++ [(t : Int)] → (O t v = true → O n v = true))
    (hd : v ∈ (nth f.fBlocks.xs t).fParams.xs ∨ scanB (nth f.fBlocks.xs t) v 0 = 2 ∨ scanB (nth f.fBlocks.xs t) v 0 = 0 ∧ (t : Int) ∈ q') : Sk f O v n W (seen.set t true) q' P := by
  have hsl := h.sl
  have hsub : ∀ y, y ∈ q → y ∈ q' := fun y hy => by rcases hq with rfl | rfl <;> simp [hy]
  refine ⟨by rw [List.length_set]; exact hsl, fun y hy => ?_, fun y hy => ?_, fun u hu hs => ?_, h.st.imp id (hsub _)⟩
  · by_cases hyq : y ∈ q
    · exact h.qr y hyq
    · rcases hq with rfl | e
      · exact absurd hy hyq
      · have hy' := hy
        rw [e] at hy'
        rcases List.mem_append.1 hy' with g | g
        · exact absurd g hyq
        · rw [List.mem_singleton] at g
          subst g
          exact ⟨by omega, by omega, hqt e⟩
  · obtain ⟨h1, h2⟩ := h.pop y hy
    refine ⟨h1, fun w hw => ?_⟩
    rw [nth_set (by rw [hsl]; exact ht)]
    split
    · rfl
    · exact h2 w hw
  · rw [nth_set (by rw [hsl]; exact ht)] at hs
    by_cases e : u = t
    · subst e
      exact hd.imp id (Or.imp id (And.imp id .inr))
    · rw [if_neg e] at hs
      exact (h.dead u hu hs).imp id (Or.imp id (And.imp id (Or.imp id (hsub _))))
/-- What is used in a way's target is used behind its source. -/
theorem use_back {x : Nat} {w : SsaEdge} (hQ : FixQ f I O) (hv : v ≠ 0) (hx : x < f.fBlocks.xs.length) (hw : w ∈ waysQ f x) (h0 : 0 ≤ w.fTo) (h1 : w.fTo < f.fBlocks.xs.length) (hp : v ∉ (nth f.fBlocks.xs w.fTo.toNat).fParams.xs)
    (h : scanB (nth f.fBlocks.xs w.fTo.toNat) v 0 = 1 ∨ scanB (nth f.fBlocks.xs w.fTo.toNat) v 0 = 0 ∧ O w.fTo.toNat v = true) : O x v = true := by
  refine (hQ.at_ x hx).2 v ⟨w, hw, h0, h1, ?_, hp⟩
  rw [(hQ.at_ w.fTo.toNat (by omega)).1]
  exact (scan_live hv _ 0 (Nat.zero_add _)).2 h
end
theorem updB_ways {f : SsaFunc} {x : Nat} : updB (waysQ f) x ((waysQ f x).take (waysQ f x).length) = waysQ f := by
  funext y
  unfold updB
  split
  · rename_i e; subst e; rw [List.take_length]
  · rfl
/-- Where nothing is left to go on from it is not used. -/
theorem Sk.none {f : SsaFunc} {I O : Nat → Int → Bool} {v : Int} {n : Nat} {seen : List Bool} {P : Nat → Prop} (hQ : FixQ f I O) (hv : v ≠ 0) (h : Sk f O v n (waysQ f) seen [] P) : O n v = false := by
  have hn : P n := h.st.elim id fun h => nomatch h
  classical
  let D : Nat → Prop := fun t => t < f.fBlocks.xs.length ∧ nth seen t = true ∧ v ∉ (nth f.fBlocks.xs t).fParams.xs
  have hc : ClosedQ f (fun b k => I b k && !decide (k = v ∧ D b)) (fun b k => O b k && !decide (k = v ∧ P b)) := fun b hb => by
    obtain ⟨c1, c2⟩ := hQ.closed b hb
    refine ⟨fun k hk => ?_, fun k hk => ?_⟩
    · obtain ⟨w, h1, h2, h3, h4, h5⟩ := hk
      have h4 : (I w.fTo.toNat k && !decide (k = v ∧ D w.fTo.toNat)) = true := h4
      rw [Bool.and_eq_true] at h4
      show (O b k && !decide (k = v ∧ P b)) = true
      rw [Bool.and_eq_true]
      refine ⟨c1 k ⟨w, h1, h2, h3, h4.1, h5⟩, ?_⟩
      have h6 := h4.2
      rw [Bool.not_eq_true', decide_eq_false_iff_not] at h6 ⊢
      rintro ⟨rfl, hp⟩
      exact h6 ⟨rfl, by omega, (h.pop b hp).2 w h1, h5⟩
    · have hk : liveB (nth f.fBlocks.xs b) (fun k => O b k && !decide (k = v ∧ P b)) 0 k = true := hk
      show (I b k && !decide (k = v ∧ D b)) = true
      rw [Bool.and_eq_true]
      refine ⟨c2 k (liveB_mono (fun k hk => by rw [Bool.and_eq_true] at hk; exact hk.1) 0 k hk), ?_⟩
      rw [Bool.not_eq_true', decide_eq_false_iff_not]
      rintro ⟨rfl, hd1, hd2, hd3⟩
      rw [scan_live hv _ 0 (Nat.zero_add _)] at hk
      rcases h.dead b hd1 hd2 with h7 | h7 | ⟨h7, h8⟩
      · exact hd3 h7
      · rcases hk with hk | hk <;> omega
      · have hp : P b := h8.elim id fun h => nomatch h
        rcases hk with hk | ⟨_, hk⟩
        · omega
        · rw [Bool.and_eq_true, Bool.not_eq_true', decide_eq_false_iff_not] at hk
          exact hk.2 ⟨rfl, hp⟩
  cases hO : O n v with
  | false => rfl
  | true =>
    have := (hQ.inv.least _ _ hc n (h.pop n hn).1).2 v hO
    rw [Bool.and_eq_true, Bool.not_eq_true', decide_eq_false_iff_not] at this
    exact absurd ⟨rfl, hn⟩ this.2
end
section
open Go Go.RowKit

theorem touchB_le {b : SsaBlock} {k : Nat} {v : Int} : touchB b k v ≤ 2 := by
  unfold touchB
  split
  · split
    · omega
    · split <;> omega
  · split <;> omega
theorem count_false_set {l : List Bool} : ∀ {i : Nat}, i < l.length → nth l i = false → (l.set i true).count false + 1 = l.count false := by
  induction l with
  | nil => intro i h; simp at h
  | cons x l ih =>
    intro i h h2
    cases i with
    | zero =>
      have : x = false := h2
      subst this; simp
    | succ i =>
      have := ih (i := i) (by simpa using h) h2
      simp only [List.set_cons_succ, List.count_cons]
      omega
set_option maxHeartbeats 8000000 in
theorem later15_spec (f : SsaFunc) (hf : OkF f) (hfw : FewFn f) (hway : ∀ b, b < f.fBlocks.xs.length → ∀ w ∈ waysQ f b, 0 ≤ w.fTo ∧ w.fTo < f.fBlocks.xs.length) (I O : Nat → Int → Bool) (hQ : FixQ f I O) (n k : Nat) (hn : n < f.fBlocks.xs.length) (hk : k ≤ (nth f.fBlocks.xs n).fIns.xs.length) (v : Int) (hv : v ≠ 0) :
    Spec Try.prog 14 [.agg (Enc.enc f).toArray, .int .i64 (n : Nat), .int .i64 (k : Nat), .int .i64 v] [] (fun ok w => RdD ok w f) fun r L' => r = .bool (liveB (nth f.fBlocks.xs n) (O n) k v) ∧ L' = [] := by
  refine spec_of Try.func14 rfl rfl fun w0 f0 hR => ?_
  have hfb := hf.b
  have hbk := hf.k n hn
  have hbi := hbk.i
  (repeat' (first | refine s_assign ?_ | refine s_nil ?_ | (refine k_C ?_; first | refine s_seq ?_ | refine s_region ?_ | refine s_block ?_) | (refine k_E ?_; refine e_seq ?_) | (refine k_load ?_; refine s_ldB rfl rfl ?_) | (refine k_fld ?_; refine s_fldB rfl ?_) | (refine k_call ?_; refine s_len rfl ?_) | (refine s_box _ rfl ?_; intro b) | (refine s_make rfl rfl om ?_; intro b)))
  rename_i b4
  obtain ⟨b9, rfl⟩ : ∃ q, q = b := ⟨_, rfl⟩
  refine s_loop (σ := Nat) (fun j => [(1, .int .i64 (n : Nat)), (3, .int .i64 v), (4, .pointer (some ⟨b4, 0, none⟩)), (9, .slice (some ⟨b9, 0, none⟩) f.fBlocks.xs.length f.fBlocks.xs.length), (2, .int .i64 (j : Nat))]) (fun _ => [own 4 (some ⟨b9, 0, none⟩) f.fBlocks.xs.length f.fBlocks.xs.length (List.replicate f.fBlocks.xs.length false), var 38 b4 f])
    (fun j => j ≤ (nth f.fBlocks.xs n).fIns.xs.length + 1 ∧ scanB (nth f.fBlocks.xs n) v k = scanB (nth f.fBlocks.xs n) v j) (fun j => (nth f.fBlocks.xs n).fIns.xs.length + 1 - j) k (by repeat (first | exact trivial | refine ⟨rfl, ?_⟩)) ⟨by omega, rfl⟩ PSub.refl ?_
  rintro g j ⟨hj, hjs⟩
  (repeat' (first | refine s_move ?_ | refine s_nil ?_ | (refine k_C ?_; first | refine s_seq ?_ | refine s_region ?_) | (refine k_E ?_; refine e_seq ?_) | (refine k_load ?_; first | refine s_ldB rfl rfl ?_ | refine s_ldSF rfl rfl om rfl ?_) | (refine k_bin ?_; refine s_leq rfl rfl ?_) | (refine k_fld ?_; first | refine s_fld rfl ?_ | refine s_fldB rfl ?_) | (refine k_idx ?_; refine s_idxS rfl rfl om ?_) | (refine k_call ?_; refine s_len rfl ?_)))
  (first | (refine k_C ?_; (refine s_ifd rfl ?_ ?_ <;> intro hc <;> try (exfalso; omega))))
  · have hjl : j ≤ (nth f.fBlocks.xs n).fIns.xs.length := by omega
    (repeat' (first | refine s_move ?_ | (refine k_C ?_; first | refine s_seq ?_ | refine s_region ?_ | refine s_skip ?_ | refine s_block ?_) | (refine k_E ?_; refine e_seq ?_) | (refine k_load ?_; first | refine s_ldB rfl rfl ?_ | refine s_ldSA rfl rfl om rfl ?_) | (refine k_fld ?_; refine s_fldB rfl ?_) | (refine k_idx ?_; refine s_idxS rfl rfl om ?_)))
    refine s_call0 (touch15_spec (nth f.fBlocks.xs n) hbk (fun m hm => Nat.le_trans ((hfw.k n hn).wa m hm) (by omega)) j v) rfl (fun w1 H => H.rdD (by infer_instance)) ?_
    rintro r L' ⟨rfl, rfl⟩
    have hst := scanB_step (v := v) hjl
    generalize htb : touchB (nth f.fBlocks.xs n) j v = tb at hst ⊢
    (repeat' (first | refine s_move ?_ | refine s_assign ?_ | refine s_nil ?_ | (refine k_C ?_; first | refine s_seq ?_ | refine s_region ?_ | refine s_skip ?_ | refine s_ret ?_ | (refine s_ifn rfl ?_ ?_ <;> intro hc <;> try (exfalso; omega))) | (refine k_E ?_; first | refine e_seq ?_ | refine e_seq_ret ?_ | refine e_bk_ret ?_ | refine e_bk ?_ | refine e_lp_ret ?_) | (refine k_bin ?_; first | refine s_add1 rfl rfl om ?_ | refine s_eql rfl rfl ?_ | refine s_neq rfl rfl ?_)))
    · have ht : tb ≠ 0 := by omega
      rw [if_neg ht] at hst
      refine e_done rfl rfl [] (PSub.take [] rfl) ⟨?_, rfl⟩
      refine congrArg Value.bool ?_
      rw [Bool.eq_iff_iff, scan_live hv _ k (Nat.add_sub_cancel' hk), hjs, hst]
      show decide ((tb : Int) = 1) = true ↔ _
      rw [decide_eq_true_eq]
      omega
    · have ht : tb = 0 := by omega
      rw [if_pos ht] at hst
      exact e_lp (j + 1) (by repeat (first | exact trivial | refine ⟨rfl, ?_⟩)) ⟨by show j + 1 ≤ _; omega, by show scanB (nth f.fBlocks.xs n) v k = scanB (nth f.fBlocks.xs n) v (j + 1); rw [hjs, hst]⟩ (by show _ - _ < _ - _; omega) PSub.refl
  have hjE : j = (nth f.fBlocks.xs n).fIns.xs.length + 1 := by omega
  have hs0 : scanB (nth f.fBlocks.xs n) v k = 0 := by rw [hjs, hjE, scanB_end]
  have hns : ∀ b, liveB (nth f.fBlocks.xs n) b k v = b v := fun b => by
    rw [Bool.eq_iff_iff, scan_live hv _ k (Nat.add_sub_cancel' hk), hs0]
    simp
  rw [hns]
  (repeat' (first | refine s_move ?_ | refine s_assign ?_ | refine s_nil ?_ | (refine k_C ?_; first | refine s_seq ?_ | refine s_region ?_ | refine s_block ?_ | refine s_exit ?_) | (refine k_E ?_; first | refine e_seq ?_ | refine e_seq_exit ?_ | refine e_bk_exit ?_ | refine e_lp_exit ?_) | (refine s_lit [_] rfl (by decide) rfl ?_; intro b)))
  obtain ⟨bq, rfl⟩ : ∃ q, q = b := ⟨_, rfl⟩
  refine s_loop (σ := List Int × Option Addr × Nat × Nat × List Bool × (Nat → Prop)) (fun z => [(3, .int .i64 v), (4, .pointer (some ⟨b4, 0, none⟩)), (9, .slice (some ⟨b9, 0, none⟩) f.fBlocks.xs.length f.fBlocks.xs.length), (11, .slice z.2.1 z.2.2.1 z.2.2.2.1)])
    (fun z => [own 3 z.2.1 z.2.2.1 z.2.2.2.1 z.1, own 4 (some ⟨b9, 0, none⟩) f.fBlocks.xs.length f.fBlocks.xs.length z.2.2.2.2.1, var 38 b4 f])
    (fun z => z.2.2.1 = z.1.length ∧ z.2.2.1 + z.2.2.2.2.1.count false ≤ f.fBlocks.xs.length + 1 ∧ Sk f O v n (waysQ f) z.2.2.2.2.1 z.1 z.2.2.2.2.2) (fun z => z.2.2.1 + z.2.2.2.2.1.count false) ([(n : Int)], some ⟨bq, 0, none⟩, 1, 1, List.replicate f.fBlocks.xs.length false, fun _ => False) (by repeat (first | exact trivial | refine ⟨rfl, ?_⟩)) ⟨rfl, by show 1 + (List.replicate f.fBlocks.xs.length false).count false ≤ _; rw [List.count_replicate_self]; omega, Sk.start hn⟩ PSub.refl ?_
  rintro g2 ⟨q, A, l, c, seen, P⟩ ⟨hl, hc1, hS⟩
  dsimp only at hl hc1 hS ⊢
  (repeat' (first | refine s_move ?_ | refine s_nil ?_ | (refine k_C ?_; first | refine s_seq ?_ | refine s_region ?_) | (refine k_E ?_; refine e_seq ?_) | (refine k_bin ?_; refine s_gtr rfl rfl ?_) | (refine k_call ?_; refine s_len rfl ?_)))
  (first | (refine k_C ?_; (refine s_ifd rfl ?_ ?_ <;> intro hc <;> try (exfalso; omega))))
  rotate_left
  · have hq : q = [] := List.eq_nil_of_length_eq_zero (by omega)
    subst hq
    (repeat' (first | refine s_assign ?_ | refine s_nil ?_ | (refine k_C ?_; first | refine s_seq ?_ | refine s_region ?_ | refine s_exit ?_ | refine s_ret ?_) | (refine k_E ?_; first | refine e_seq ?_ | refine e_seq_exit ?_ | refine e_bk_exit ?_ | refine e_lp_exit ?_)))
    exact e_done rfl rfl [] (PSub.take [] rfl) ⟨by rw [hS.none hQ hv]; rfl, rfl⟩
  have hl0 : 0 < l := by omega
  cases q with
  | nil => exact absurd hl (by simp; omega)
  | cons x q =>
  obtain ⟨hx0, hx1, hx2⟩ := hS.qr x (by simp)
  obtain ⟨xn, rfl⟩ : ∃ m : Nat, x = (m : Int) := ⟨x.toNat, by omega⟩
  rw [Int.toNat_natCast] at hx2
  have hxn : xn < f.fBlocks.xs.length := by omega
  have hS1 := hS.go
  rw [Int.toNat_natCast] at hS1
  (repeat' (first | refine s_move ?_ | refine s_assign ?_ | refine s_nil ?_ | (refine k_C ?_; first | refine s_seq ?_ | refine s_region ?_ | refine s_skip ?_ | refine s_block ?_) | (refine k_E ?_; refine e_seq ?_) | (refine k_load ?_; first | refine s_ldB rfl rfl ?_ | refine s_ld rfl om rfl ?_) | (refine k_fld ?_; first | refine s_fld rfl ?_ | refine s_fldB rfl ?_) | (refine k_idx ?_; first | refine s_idx rfl rfl om ?_ | refine s_idxS rfl rfl om ?_) | (refine s_cutL rfl rfl om ?_; intro A)))
  refine s_ldSF2 (s := f.fBlocks) (j := xn) rfl rfl (by omega) rfl ?_
  have hwx := (hf.k xn hxn).w
  simp only [List.length_cons] at hl
  (repeat' (first | refine s_move ?_ | refine s_nil ?_ | (refine k_C ?_; refine s_block ?_) | (refine k_E ?_; refine e_seq ?_) | (refine k_call ?_; refine s_len rfl ?_)))
  refine s_loop (σ := Nat × List Int × Option Addr × Nat × Nat × List Bool) (fun z => [(3, .int .i64 v), (4, .pointer (some ⟨b4, 0, none⟩)), (9, .slice (some ⟨b9, 0, none⟩) f.fBlocks.xs.length f.fBlocks.xs.length), (11, .slice z.2.2.1 z.2.2.2.1 z.2.2.2.2.1), (63, .slice (nth f.fBlocks.xs xn).fEnd.fWays.A (nth f.fBlocks.xs xn).fEnd.fWays.xs.length (nth f.fBlocks.xs xn).fEnd.fWays.c), (64, .int .i64 (nth f.fBlocks.xs xn).fEnd.fWays.xs.length), (65, .int .i64 (z.1 : Nat))])
    (fun z => [own 3 z.2.2.1 z.2.2.2.1 z.2.2.2.2.1 z.2.1, own 4 (some ⟨b9, 0, none⟩) f.fBlocks.xs.length f.fBlocks.xs.length z.2.2.2.2.2, var 38 b4 f])
    (fun z => z.1 ≤ (nth f.fBlocks.xs xn).fEnd.fWays.xs.length ∧ z.2.2.2.1 = z.2.1.length ∧ z.2.2.2.1 + z.2.2.2.2.2.count false + 1 ≤ l + seen.count false ∧ Sk f O v n (updB (waysQ f) xn ((waysQ f xn).take z.1)) z.2.2.2.2.2 z.2.1 fun y => P y ∨ y = xn) (fun z => (nth f.fBlocks.xs xn).fEnd.fWays.xs.length - z.1) (0, q, _, l - 1, c - 1, seen) (by repeat (first | exact trivial | refine ⟨rfl, ?_⟩)) ⟨Nat.zero_le _, by show l - 1 = q.length; omega, by show l - 1 + seen.count false + 1 ≤ _; omega, hS1⟩ PSub.refl ?_
  rintro g3 ⟨j, q1, A1, l1, c1, seen1⟩ ⟨hj, hl1, hm1, hS2⟩
  dsimp only at hj hl1 hm1 hS2 ⊢
  (repeat' (first | refine s_nil ?_ | (refine k_C ?_; first | refine s_seq ?_ | refine s_region ?_) | (refine k_E ?_; refine e_seq ?_) | (refine k_bin ?_; refine s_lss rfl rfl ?_)))
  (first | (refine k_C ?_; (refine s_ifd rfl ?_ ?_ <;> intro hc <;> try (exfalso; omega))))
  rotate_left
  · have hjE : j = (nth f.fBlocks.xs xn).fEnd.fWays.xs.length := by omega
    subst hjE
    have hS3 : Sk f O v n (waysQ f) seen1 q1 fun y => P y ∨ y = xn := by
      have := updB_ways (f := f) (x := xn)
      rw [show (nth f.fBlocks.xs xn).fEnd.fWays.xs.length = (waysQ f xn).length from rfl, this] at hS2
      exact hS2
    (repeat' (first | (refine k_C ?_; refine s_exit ?_) | (refine k_E ?_; first | refine e_seq_exit ?_ | refine e_bk_exit ?_ | refine e_bk ?_ | refine e_lp_exit ?_)))
    exact e_lp (q1, A1, l1, c1, seen1, fun y => P y ∨ y = xn) (by repeat (first | exact trivial | refine ⟨rfl, ?_⟩)) ⟨hl1, by show l1 + seen1.count false ≤ _; omega, hS3⟩ (by show l1 + seen1.count false < l + seen.count false; omega) PSub.refl
  have hjn : j < (nth f.fBlocks.xs xn).fEnd.fWays.xs.length := by omega
  have hwm : nth (nth f.fBlocks.xs xn).fEnd.fWays.xs j ∈ waysQ f xn := nth_mem hjn
  obtain ⟨hw0, hw1⟩ := hway xn hxn _ hwm
  have htn : (nth (nth f.fBlocks.xs xn).fEnd.fWays.xs j).fTo.toNat < f.fBlocks.xs.length := by omega
  have hwp := (hf.k (nth (nth f.fBlocks.xs xn).fEnd.fWays.xs j).fTo.toNat htn).p
  have hwi := (hf.k (nth (nth f.fBlocks.xs xn).fEnd.fWays.xs j).fTo.toNat htn).i
  have hsl := hS2.sl
  (repeat' (first | refine s_move ?_ | refine s_assign ?_ | refine s_nil ?_ | (refine k_C ?_; first | refine s_seq ?_ | refine s_region ?_ | refine s_skip ?_ | refine s_block ?_ | refine s_exit ?_ | (refine s_if rfl ?_ ?_ <;> intro hc)) | (refine k_E ?_; first | refine e_seq ?_ | refine e_seq_exit ?_ | refine e_bk_exit ?_) | (refine k_load ?_; first | refine s_ldB rfl rfl ?_ | refine s_ld rfl om rfl ?_ | refine s_ldS rfl rfl om rfl ?_ | refine s_ldSA rfl rfl om rfl ?_) | (refine k_bin ?_; refine s_add1 rfl rfl om ?_) | (refine k_fld ?_; first | refine s_fld rfl ?_ | refine s_fldB rfl ?_) | (refine k_idx ?_; first | refine s_idxI rfl rfl om om ?_ | refine s_idxS rfl rfl om ?_ | refine s_idxSI rfl rfl om om ?_) | (refine k_store ?_; first | refine s_stW _ rfl rfl ?_ | refine s_st _ rfl rfl om ?_) | (refine k_call ?_; refine s_len rfl ?_) | (refine s_alloc ?_; intro b)))
  · have hs : nth seen1 (nth (nth f.fBlocks.xs xn).fEnd.fWays.xs j).fTo.toNat = true := by assumption
    exact e_lp (j + 1, q1, A1, l1, c1, seen1) (by repeat (first | exact trivial | refine ⟨rfl, ?_⟩)) ⟨by show j + 1 ≤ _; omega, hl1, hm1, hS2.skip hjn hs⟩ (by show _ - _ < _ - _; omega) (PSub.take [1, 1, 1] rfl)
  have hs : nth seen1 (nth (nth f.fBlocks.xs xn).fEnd.fWays.xs j).fTo.toNat = false := by assumption
  obtain ⟨b14, rfl⟩ : ∃ q, q = b := ⟨_, rfl⟩
  refine s_loop (σ := Nat × Bool) (fun z => [(3, .int .i64 v), (4, .pointer (some ⟨b4, 0, none⟩)), (9, .slice (some ⟨b9, 0, none⟩) f.fBlocks.xs.length f.fBlocks.xs.length), (11, .slice A1 l1 c1), (63, .slice (nth f.fBlocks.xs xn).fEnd.fWays.A (nth f.fBlocks.xs xn).fEnd.fWays.xs.length (nth f.fBlocks.xs xn).fEnd.fWays.c), (64, .int .i64 (nth f.fBlocks.xs xn).fEnd.fWays.xs.length), (65, .int .i64 (j : Nat)), (14, .pointer (some ⟨b14, 0, none⟩)), (15, .bool z.2), (84, .slice (nth f.fBlocks.xs (nth (nth f.fBlocks.xs xn).fEnd.fWays.xs j).fTo.toNat).fParams.A (nth f.fBlocks.xs (nth (nth f.fBlocks.xs xn).fEnd.fWays.xs j).fTo.toNat).fParams.xs.length (nth f.fBlocks.xs (nth (nth f.fBlocks.xs xn).fEnd.fWays.xs j).fTo.toNat).fParams.c), (85, .int .i64 (nth f.fBlocks.xs (nth (nth f.fBlocks.xs xn).fEnd.fWays.xs j).fTo.toNat).fParams.xs.length), (86, .int .i64 (z.1 : Nat))]) (fun _ => [var 57 b14 (nth (nth f.fBlocks.xs xn).fEnd.fWays.xs j), own 3 A1 l1 c1 q1, own 4 (some ⟨b9, 0, none⟩) f.fBlocks.xs.length f.fBlocks.xs.length (seen1.set (nth (nth f.fBlocks.xs xn).fEnd.fWays.xs j).fTo.toNat true), var 38 b4 f])
    (fun z => z.1 ≤ (nth f.fBlocks.xs (nth (nth f.fBlocks.xs xn).fEnd.fWays.xs j).fTo.toNat).fParams.xs.length ∧ z.2 = decide (v ∈ (nth f.fBlocks.xs (nth (nth f.fBlocks.xs xn).fEnd.fWays.xs j).fTo.toNat).fParams.xs.take z.1)) (fun z => (nth f.fBlocks.xs (nth (nth f.fBlocks.xs xn).fEnd.fWays.xs j).fTo.toNat).fParams.xs.length - z.1) (0, false) (by repeat (first | exact trivial | refine ⟨rfl, ?_⟩)) ⟨Nat.zero_le _, by simp⟩ PSub.refl ?_
  rintro g4 ⟨i, gn⟩ ⟨hi, hgn⟩
  dsimp only at hi hgn ⊢
  (repeat' (first | refine s_nil ?_ | (refine k_C ?_; first | refine s_seq ?_ | refine s_region ?_) | (refine k_E ?_; refine e_seq ?_) | (refine k_bin ?_; refine s_lss rfl rfl ?_)))
  (first | (refine k_C ?_; (refine s_ifd rfl ?_ ?_ <;> intro hc <;> try (exfalso; omega))))
  · have hil : i < (nth f.fBlocks.xs (nth (nth f.fBlocks.xs xn).fEnd.fWays.xs j).fTo.toNat).fParams.xs.length := by omega
    have htk := take_nth (xs := (nth f.fBlocks.xs (nth (nth f.fBlocks.xs xn).fEnd.fWays.xs j).fTo.toNat).fParams.xs) hil
    (repeat' (first | refine s_move ?_ | refine s_assign ?_ | refine s_nil ?_ | (refine k_C ?_; first | refine s_seq ?_ | refine s_region ?_ | refine s_skip ?_ | refine s_block ?_) | (refine k_E ?_; first | refine e_seq ?_ | refine e_bk ?_) | (refine k_load ?_; refine s_ldS rfl rfl om rfl ?_) | (refine k_bin ?_; first | refine s_add1 rfl rfl om ?_ | refine s_eql rfl rfl ?_) | (refine k_idx ?_; refine s_idxS rfl rfl om ?_) | (refine k_guard ?_; first | refine s_on rfl rfl ?_ | refine s_off rfl rfl rfl rfl ?_ | (refine s_cases rfl rfl ?_ ?_ <;> intro hc)) | refine s_pick rfl ?_))
    · have hg : gn = true := by assumption
      subst hg
      exact e_lp (i + 1, true) (by repeat (first | exact trivial | refine ⟨rfl, ?_⟩)) ⟨by show i + 1 ≤ _; omega, by
        show true = decide (v ∈ (nth f.fBlocks.xs (nth (nth f.fBlocks.xs xn).fEnd.fWays.xs j).fTo.toNat).fParams.xs.take (i + 1))
        rw [← htk]; have := of_decide_eq_true hgn.symm; simp [this]⟩ (by show _ - _ < _ - _; omega) PSub.refl
    · have hg : gn = false := by assumption
      subst hg
      exact e_lp (i + 1, decide (nth (nth f.fBlocks.xs (nth (nth f.fBlocks.xs xn).fEnd.fWays.xs j).fTo.toNat).fParams.xs i = v)) (by repeat (first | exact trivial | refine ⟨rfl, ?_⟩)) ⟨by show i + 1 ≤ _; omega, by
        show _ = decide (v ∈ (nth f.fBlocks.xs (nth (nth f.fBlocks.xs xn).fEnd.fWays.xs j).fTo.toNat).fParams.xs.take (i + 1))
        rw [← htk]; have := of_decide_eq_false hgn.symm
        rw [Bool.eq_iff_iff]; simp [this, eq_comm]⟩ (by show _ - _ < _ - _; omega) PSub.refl
  have hiE : i = (nth f.fBlocks.xs (nth (nth f.fBlocks.xs xn).fEnd.fWays.xs j).fTo.toNat).fParams.xs.length := by omega
  rw [hiE, List.take_length] at hgn
  (repeat' (first | refine s_assign ?_ | refine s_nil ?_ | (refine k_C ?_; first | refine s_seq ?_ | refine s_region ?_ | refine s_block ?_ | refine s_exit ?_) | (refine k_E ?_; first | refine e_seq ?_ | refine e_seq_exit ?_ | refine e_bk_exit ?_ | refine e_lp_exit ?_)))
  refine s_loop (σ := Nat × Bool) (fun z => [(3, .int .i64 v), (4, .pointer (some ⟨b4, 0, none⟩)), (9, .slice (some ⟨b9, 0, none⟩) f.fBlocks.xs.length f.fBlocks.xs.length), (11, .slice A1 l1 c1), (63, .slice (nth f.fBlocks.xs xn).fEnd.fWays.A (nth f.fBlocks.xs xn).fEnd.fWays.xs.length (nth f.fBlocks.xs xn).fEnd.fWays.c), (64, .int .i64 (nth f.fBlocks.xs xn).fEnd.fWays.xs.length), (65, .int .i64 (j : Nat)), (14, .pointer (some ⟨b14, 0, none⟩)), (15, .bool z.2), (18, .int .i64 (z.1 : Nat))]) (fun _ => [var 57 b14 (nth (nth f.fBlocks.xs xn).fEnd.fWays.xs j), own 3 A1 l1 c1 q1, own 4 (some ⟨b9, 0, none⟩) f.fBlocks.xs.length f.fBlocks.xs.length (seen1.set (nth (nth f.fBlocks.xs xn).fEnd.fWays.xs j).fTo.toNat true), var 38 b4 f])
    (fun z => z.1 ≤ (nth f.fBlocks.xs (nth (nth f.fBlocks.xs xn).fEnd.fWays.xs j).fTo.toNat).fIns.xs.length + 1 ∧ (z.2 = true → v ∈ (nth f.fBlocks.xs (nth (nth f.fBlocks.xs xn).fEnd.fWays.xs j).fTo.toNat).fParams.xs ∨ scanB (nth f.fBlocks.xs (nth (nth f.fBlocks.xs xn).fEnd.fWays.xs j).fTo.toNat) v 0 = 2) ∧ (z.2 = false → v ∉ (nth f.fBlocks.xs (nth (nth f.fBlocks.xs xn).fEnd.fWays.xs j).fTo.toNat).fParams.xs ∧ scanB (nth f.fBlocks.xs (nth (nth f.fBlocks.xs xn).fEnd.fWays.xs j).fTo.toNat) v 0 = scanB (nth f.fBlocks.xs (nth (nth f.fBlocks.xs xn).fEnd.fWays.xs j).fTo.toNat) v z.1)) (fun z => (nth f.fBlocks.xs (nth (nth f.fBlocks.xs xn).fEnd.fWays.xs j).fTo.toNat).fIns.xs.length + 1 - z.1) (0, gn) (by repeat (first | exact trivial | refine ⟨rfl, ?_⟩)) ⟨Nat.zero_le _, fun h => .inl (of_decide_eq_true (hgn.symm.trans h)), fun h => ⟨of_decide_eq_false (hgn.symm.trans h), rfl⟩⟩ PSub.refl ?_
  rintro g5 ⟨kk, gg⟩ ⟨hkk, hg1, hg2⟩
  dsimp only at hkk hg1 hg2 ⊢
  have hcf := count_false_set (by omega) hs
  have hset : nth (seen1.set (nth (nth f.fBlocks.xs xn).fEnd.fWays.xs j).fTo.toNat true) (nth (nth f.fBlocks.xs xn).fEnd.fWays.xs j).fTo.toNat = true := by rw [nth_set (by omega), if_pos rfl]
  have hto : (((nth (nth f.fBlocks.xs xn).fEnd.fWays.xs j).fTo.toNat : Nat) : Int) = (nth (nth f.fBlocks.xs xn).fEnd.fWays.xs j).fTo := by omega
  cases gg with
  | true =>
    have hS4 := (hS2.see htn (.inl rfl) (fun e => absurd (congrArg List.length e) (by simp)) ((hg1 rfl).imp id .inl)).skip hjn hset
    (repeat' (first | refine s_move ?_ | refine s_nil ?_ | (refine k_C ?_; first | refine s_seq ?_ | refine s_region ?_ | refine s_skip ?_ | refine s_exit ?_ | refine s_iff rfl ?_) | (refine k_E ?_; first | refine e_seq ?_ | refine e_seq_exit ?_ | refine e_bk_exit ?_ | refine e_bk ?_ | refine e_lp_exit ?_) | (refine k_load ?_; first | refine s_ldB rfl rfl ?_ | refine s_ldSF rfl rfl om rfl ?_) | (refine k_bin ?_; first | refine s_add1 rfl rfl om ?_ | refine s_leq rfl rfl ?_) | (refine k_fld ?_; first | refine s_fld rfl ?_ | refine s_fldB rfl ?_) | (refine k_idx ?_; refine s_idxSI rfl rfl om om ?_) | (refine k_call ?_; refine s_len rfl ?_) | (refine k_guard ?_; first | refine s_on rfl rfl ?_ | refine s_off rfl rfl rfl rfl ?_ | (refine s_casesd rfl rfl ?_ ?_ <;> intro hc <;> try (exfalso; omega))) | refine s_not rfl ?_ | refine s_pick rfl ?_))
    all_goals exact e_lp (j + 1, q1, A1, l1, c1, seen1.set (nth (nth f.fBlocks.xs xn).fEnd.fWays.xs j).fTo.toNat true) (by repeat (first | exact trivial | refine ⟨rfl, ?_⟩)) ⟨by show j + 1 ≤ _; omega, hl1, by show l1 + (seen1.set (nth (nth f.fBlocks.xs xn).fEnd.fWays.xs j).fTo.toNat true).count false + 1 ≤ _; omega, hS4⟩ (by show _ - _ < _ - _; omega) (PSub.take [1, 1, 1] rfl)
  | false =>
    obtain ⟨hp, hsc⟩ := hg2 rfl
    by_cases hkl : kk ≤ (nth f.fBlocks.xs (nth (nth f.fBlocks.xs xn).fEnd.fWays.xs j).fTo.toNat).fIns.xs.length
    · (repeat' (first | refine s_move ?_ | refine s_nil ?_ | (refine k_C ?_; first | refine s_seq ?_ | refine s_region ?_ | refine s_skip ?_ | refine s_block ?_ | refine s_ift rfl ?_) | (refine k_E ?_; refine e_seq ?_) | (refine k_load ?_; first | refine s_ldB rfl rfl ?_ | refine s_ldSF rfl rfl om rfl ?_ | refine s_ldSA rfl rfl om rfl ?_) | (refine k_bin ?_; refine s_leq rfl rfl ?_) | (refine k_fld ?_; first | refine s_fld rfl ?_ | refine s_fldB rfl ?_) | (refine k_idx ?_; refine s_idxSI rfl rfl om om ?_) | (refine k_call ?_; refine s_len rfl ?_) | (refine k_guard ?_; first | refine s_on rfl rfl ?_ | (refine s_casesd rfl rfl ?_ ?_ <;> intro hc <;> try (exfalso; omega))) | refine s_not rfl ?_ | refine s_pick rfl ?_))
      refine s_call0 (touch15_spec (nth f.fBlocks.xs (nth (nth f.fBlocks.xs xn).fEnd.fWays.xs j).fTo.toNat) (hf.k (nth (nth f.fBlocks.xs xn).fEnd.fWays.xs j).fTo.toNat htn) (fun m hm => Nat.le_trans ((hfw.k (nth (nth f.fBlocks.xs xn).fEnd.fWays.xs j).fTo.toNat htn).wa m hm) (by omega)) kk v) rfl (fun w1 H => H.rdD (by infer_instance)) ?_
      rintro r L' ⟨rfl, rfl⟩
      have hst := scanB_step (v := v) hkl
      have htl := touchB_le (b := (nth f.fBlocks.xs (nth (nth f.fBlocks.xs xn).fEnd.fWays.xs j).fTo.toNat)) (k := kk) (v := v)
      generalize htb : touchB (nth f.fBlocks.xs (nth (nth f.fBlocks.xs xn).fEnd.fWays.xs j).fTo.toNat) kk v = tb at hst htl ⊢
      (repeat' (first | refine s_move ?_ | refine s_assign ?_ | refine s_nil ?_ | (refine k_C ?_; first | refine s_seq ?_ | refine s_region ?_ | refine s_skip ?_ | refine s_ret ?_ | (refine s_ifd rfl ?_ ?_ <;> intro hc <;> try (exfalso; omega))) | (refine k_E ?_; first | refine e_seq ?_ | refine e_seq_ret ?_ | refine e_bk_ret ?_ | refine e_bk ?_ | refine e_lp_ret ?_) | (refine k_bin ?_; first | refine s_add1 rfl rfl om ?_ | refine s_eql rfl rfl ?_)))
      · have ht : tb = 1 := by omega
        rw [if_neg (by omega), ht] at hst
        have := hx2 (use_back hQ hv hxn hwm hw0 hw1 hp (.inl (hsc.trans hst)))
        exact e_done rfl rfl [] (PSub.take [] rfl) ⟨by rw [this]; rfl, rfl⟩
      · exact e_lp (kk + 1, decide ((tb : Int) = 2)) (by repeat (first | exact trivial | refine ⟨rfl, ?_⟩)) ⟨by show kk + 1 ≤ _; omega, fun h => by
            have h := of_decide_eq_true h
            have ht : tb = 2 := by omega
            rw [if_neg (by omega), ht] at hst
            exact .inr (hsc.trans hst), fun h => by
            have h := of_decide_eq_false h
            have ht : tb = 0 := by omega
            rw [if_pos ht] at hst
            exact ⟨hp, hsc.trans hst⟩⟩ (by show _ - _ < _ - _; omega) PSub.refl
    · have hkE : kk = (nth f.fBlocks.xs (nth (nth f.fBlocks.xs xn).fEnd.fWays.xs j).fTo.toNat).fIns.xs.length + 1 := by omega
      rw [hkE, scanB_end] at hsc
      have hS4 := (hS2.see (q' := q1 ++ [(((nth (nth f.fBlocks.xs xn).fEnd.fWays.xs j).fTo.toNat : Nat) : Int)]) htn (.inr rfl) (fun _ h => hx2 (use_back hQ hv hxn hwm hw0 hw1 hp (.inr ⟨hsc, h⟩))) (.inr (.inr ⟨hsc, by simp⟩))).skip hjn hset
      rw [hto] at hS4
      (repeat' (first | refine s_move ?_ | refine s_assign ?_ | refine s_nil ?_ | (refine k_C ?_; first | refine s_seq ?_ | refine s_region ?_ | refine s_exit ?_ | refine s_ift rfl ?_ | refine s_iff rfl ?_) | (refine k_E ?_; first | refine e_seq ?_ | refine e_seq_exit ?_ | refine e_bk_exit ?_ | refine e_bk ?_ | refine e_lp_exit ?_) | (refine k_load ?_; first | refine s_ldB rfl rfl ?_ | refine s_ldSF rfl rfl om rfl ?_) | (refine k_bin ?_; first | refine s_add1 rfl rfl om ?_ | refine s_leq rfl rfl ?_) | (refine k_fld ?_; first | refine s_fld rfl ?_ | refine s_fldB rfl ?_) | (refine k_idx ?_; refine s_idxSI rfl rfl om om ?_) | (refine k_call ?_; refine s_len rfl ?_) | (refine k_guard ?_; first | refine s_off rfl rfl rfl rfl ?_ | (refine s_casesd rfl rfl ?_ ?_ <;> intro hc <;> try (exfalso; omega))) | refine s_not rfl ?_ | refine s_pick rfl ?_ | (refine s_app1 _ (fun _ => rfl) rfl om ?_; intro v A c)))
      exact e_lp (j + 1, q1 ++ [(nth (nth f.fBlocks.xs xn).fEnd.fWays.xs j).fTo], A, l1 + 1, c, seen1.set (nth (nth f.fBlocks.xs xn).fEnd.fWays.xs j).fTo.toNat true) (by repeat (first | exact trivial | refine ⟨rfl, ?_⟩)) ⟨by show j + 1 ≤ _; omega, by show l1 + 1 = (q1 ++ [_]).length; rw [List.length_append, hl1]; rfl, by show l1 + 1 + (seen1.set (nth (nth f.fBlocks.xs xn).fEnd.fWays.xs j).fTo.toNat true).count false + 1 ≤ _; omega, hS4⟩ (by show _ - _ < _ - _; omega) (PSub.take [1, 1, 1] rfl)
end
end Go.Proofs.Ytfplmdjlgjgbgaa
