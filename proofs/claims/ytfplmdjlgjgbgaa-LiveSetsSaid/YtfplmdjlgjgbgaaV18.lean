/- Layer 15: touch, all, walked. -/
import Derived.Test.YtfplmdjlgjgbgaaV17
namespace Go.Proofs.Ytfplmdjlgjgbgaa
set_option linter.unusedVariables false
set_option linter.unusedSimpArgs false
open Go Go.RowKit

/-- What a place of a block does to a value: 1 uses it, 2 makes it, 0 neither. -/
def touchB (b : SsaBlock) (k : Nat) (v : Int) : Nat :=
  if k < b.fIns.xs.length then (if v ∈ (nth b.fIns.xs k).fArgs.xs then 1 else if (nth b.fIns.xs k).fDst = v then 2 else 0)
  else if b.fEnd.fVal = v ∨ ∃ w ∈ b.fEnd.fWays.xs, v ∈ w.fArgs.xs then 1 else 0
theorem mem_of_nth {l : List Int} {j : Nat} (hj : j < l.length) {v : Int} (h : nth l j = v) : v ∈ l := h ▸ nth_mem hj
theorem not_mem_of {l : List Int} {v : Int} (h : ∀ m, m < l.length → nth l m ≠ v) : v ∉ l := fun hm => by
  obtain ⟨m, hm, e⟩ := List.getElem_of_mem hm
  exact h m hm ((nth_get hm).trans e)
set_option maxHeartbeats 4000000 in
theorem touch15_spec (b : SsaBlock) (hb : OkB b) (hwa : ∀ m, m < b.fEnd.fWays.xs.length → (nth b.fEnd.fWays.xs m).fArgs.xs.length ≤ 1000) (k : Nat) (v : Int) : Spec Try.prog 25 [.agg (Enc.enc b).toArray, .int .i64 (k : Nat), .int .i64 v] [] (fun ok w => RdD ok w b) fun r L' => r = .int .i64 (touchB b k v : Nat) ∧ L' = [] := by
  refine spec_of Try.func25 rfl rfl fun w0 f0 hR => ?_
  have hbi := hb.i
  have hbw := hb.w
  have hba := hb.a k
  (repeat' (first | refine s_move ?_ | refine s_assign ?_ | refine s_nil ?_ | (refine k_C ?_; first | refine s_seq ?_ | refine s_region ?_ | refine s_skip ?_ | refine s_block ?_ | refine s_ret ?_ | (refine s_ifd rfl ?_ ?_ <;> intro hc <;> try (exfalso; omega))) | (refine k_E ?_; first | refine e_seq ?_ | refine e_seq_ret ?_) | (refine k_load ?_; first | refine s_ldB rfl rfl ?_ | refine s_ldSF rfl rfl om rfl ?_) | (refine k_bin ?_; first | refine s_lss rfl rfl ?_ | refine s_eql rfl rfl ?_) | (refine k_fld ?_; first | refine s_fld rfl ?_ | refine s_fldB rfl ?_) | (refine k_idx ?_; refine s_idxS rfl rfl om ?_) | (refine k_call ?_; refine s_len rfl ?_) | (refine s_box _ rfl ?_; intro b)))
  · rename Nat => b3
    have hk : k < b.fIns.xs.length := by omega
    have hal := hba hk
    refine s_loop (σ := Nat) (fun j => [(1, .int .i64 (k : Nat)), (2, .int .i64 v), (3, .pointer (some ⟨b3, 0, none⟩)), (23, .slice (nth b.fIns.xs k).fArgs.A (nth b.fIns.xs k).fArgs.xs.length (nth b.fIns.xs k).fArgs.c), (24, .int .i64 (nth b.fIns.xs k).fArgs.xs.length), (25, .int .i64 (j : Nat))]) (fun _ => [var 31 b3 b])
      (fun j => j ≤ (nth b.fIns.xs k).fArgs.xs.length ∧ ∀ m, m < j → nth (nth b.fIns.xs k).fArgs.xs m ≠ v) (fun j => (nth b.fIns.xs k).fArgs.xs.length - j) 0 (by repeat (first | exact trivial | refine ⟨rfl, ?_⟩)) ⟨Nat.zero_le _, fun m hm => absurd hm (Nat.not_lt_zero m)⟩ PSub.refl ?_
    rintro g j ⟨hj, hjn⟩
    (repeat' (first | refine s_nil ?_ | (refine k_C ?_; first | refine s_seq ?_ | refine s_region ?_) | (refine k_E ?_; refine e_seq ?_) | (refine k_bin ?_; refine s_lss rfl rfl ?_)))
    (first | (refine k_C ?_; (refine s_ifd rfl ?_ ?_ <;> intro hc <;> try (exfalso; omega))))
    · have hjl : j < (nth b.fIns.xs k).fArgs.xs.length := by omega
      (repeat' (first | refine s_move ?_ | refine s_assign ?_ | refine s_nil ?_ | (refine k_C ?_; first | refine s_seq ?_ | refine s_region ?_ | refine s_skip ?_ | refine s_block ?_ | refine s_ret ?_ | (refine s_ifd rfl ?_ ?_ <;> intro hc <;> try (exfalso; omega))) | (refine k_E ?_; first | refine e_seq ?_ | refine e_seq_ret ?_ | refine e_bk_ret ?_ | refine e_bk ?_ | refine e_lp_ret ?_) | (refine k_load ?_; refine s_ldS rfl rfl om rfl ?_) | (refine k_bin ?_; first | refine s_add1 rfl rfl om ?_ | refine s_eql rfl rfl ?_) | (refine k_idx ?_; refine s_idxS rfl rfl om ?_)))
      · exact e_done rfl rfl [] (PSub.take [] rfl) ⟨by unfold touchB; rw [if_pos hk, if_pos (mem_of_nth hjl (by assumption))]; rfl, rfl⟩
      · exact e_lp (j + 1) (by repeat (first | exact trivial | refine ⟨rfl, ?_⟩)) ⟨by show j + 1 ≤ _; omega, fun m hm => by
          rcases Nat.lt_or_ge m j with h | h
          · exact hjn m h
          · obtain rfl : m = j := by have : m < j + 1 := hm; omega
            assumption⟩ (by show _ - _ < _ - _; omega) PSub.refl
    have hno : v ∉ (nth b.fIns.xs k).fArgs.xs := not_mem_of fun m hm => hjn m (by omega)
    (repeat' (first | refine s_move ?_ | refine s_assign ?_ | refine s_nil ?_ | (refine k_C ?_; first | refine s_seq ?_ | refine s_region ?_ | refine s_skip ?_ | refine s_exit ?_ | refine s_ret ?_ | (refine s_ifd rfl ?_ ?_ <;> intro hc <;> try (exfalso; omega))) | (refine k_E ?_; first | refine e_seq ?_ | refine e_seq_ret ?_ | refine e_seq_exit ?_ | refine e_bk_exit ?_ | refine e_lp_exit ?_) | (refine k_load ?_; first | refine s_ldB rfl rfl ?_ | refine s_ldSF rfl rfl om rfl ?_) | (refine k_bin ?_; refine s_eql rfl rfl ?_) | (refine k_fld ?_; first | refine s_fld rfl ?_ | refine s_fldB rfl ?_) | (refine k_idx ?_; refine s_idxS rfl rfl om ?_)))
    · exact e_done rfl rfl [] (PSub.take [] rfl) ⟨by unfold touchB; rw [if_pos hk, if_neg hno, if_pos (by assumption)]; rfl, rfl⟩
    · exact e_done rfl rfl [] (PSub.take [] rfl) ⟨by unfold touchB; rw [if_pos hk, if_neg hno, if_neg (by assumption)]; rfl, rfl⟩
  · exact e_done rfl rfl [] (PSub.take [] rfl) ⟨by unfold touchB; rw [if_neg (by omega), if_pos (.inl (by assumption))]; rfl, rfl⟩
  rename Nat => b3
  have hk : ¬ k < b.fIns.xs.length := by omega
  have hval : ¬ b.fEnd.fVal = v := by assumption
  refine s_loop (σ := Nat) (fun j => [(1, .int .i64 (k : Nat)), (2, .int .i64 v), (3, .pointer (some ⟨b3, 0, none⟩)), (48, .slice b.fEnd.fWays.A b.fEnd.fWays.xs.length b.fEnd.fWays.c), (49, .int .i64 b.fEnd.fWays.xs.length), (50, .int .i64 (j : Nat))]) (fun _ => [var 31 b3 b])
    (fun j => j ≤ b.fEnd.fWays.xs.length ∧ ∀ m, m < j → v ∉ (nth b.fEnd.fWays.xs m).fArgs.xs) (fun j => b.fEnd.fWays.xs.length - j) 0 (by repeat (first | exact trivial | refine ⟨rfl, ?_⟩)) ⟨Nat.zero_le _, fun m hm => absurd hm (Nat.not_lt_zero m)⟩ PSub.refl ?_
  rintro g j ⟨hj, hjn⟩
  (repeat' (first | refine s_nil ?_ | (refine k_C ?_; first | refine s_seq ?_ | refine s_region ?_) | (refine k_E ?_; refine e_seq ?_) | (refine k_bin ?_; refine s_lss rfl rfl ?_)))
  (first | (refine k_C ?_; (refine s_ifd rfl ?_ ?_ <;> intro hc <;> try (exfalso; omega))))
  rotate_left
  · have hno : ¬ (b.fEnd.fVal = v ∨ ∃ w ∈ b.fEnd.fWays.xs, v ∈ w.fArgs.xs) := by
      rintro (h | ⟨w, hw, h⟩)
      · exact hval h
      · obtain ⟨m, hm, rfl⟩ := List.getElem_of_mem hw
        rw [← nth_get hm] at h
        exact hjn m (by omega) h
    (repeat' (first | refine s_assign ?_ | refine s_nil ?_ | (refine k_C ?_; first | refine s_seq ?_ | refine s_region ?_ | refine s_exit ?_ | refine s_ret ?_) | (refine k_E ?_; first | refine e_seq ?_ | refine e_seq_exit ?_ | refine e_bk_exit ?_ | refine e_lp_exit ?_)))
    exact e_done rfl rfl [] (PSub.take [] rfl) ⟨by unfold touchB; rw [if_neg hk, if_neg hno]; rfl, rfl⟩
  have hjl : j < b.fEnd.fWays.xs.length := by omega
  have hwl := hwa j hjl
  (repeat' (first | refine s_move ?_ | refine s_nil ?_ | (refine k_C ?_; first | refine s_seq ?_ | refine s_region ?_ | refine s_skip ?_ | refine s_block ?_) | (refine k_E ?_; refine e_seq ?_) | (refine k_load ?_; first | refine s_ldB rfl rfl ?_ | refine s_ldSA rfl rfl om rfl ?_) | (refine k_fld ?_; refine s_fldB rfl ?_) | (refine k_idx ?_; refine s_idxS rfl rfl om ?_) | (refine k_store ?_; refine s_stW _ rfl rfl ?_) | (refine k_call ?_; refine s_len rfl ?_) | (refine s_alloc ?_; intro b)))
  rename Nat => b10
  refine s_loop (σ := Nat) (fun i => [(1, .int .i64 (k : Nat)), (2, .int .i64 v), (3, .pointer (some ⟨b3, 0, none⟩)), (48, .slice b.fEnd.fWays.A b.fEnd.fWays.xs.length b.fEnd.fWays.c), (49, .int .i64 b.fEnd.fWays.xs.length), (50, .int .i64 (j : Nat)), (55, .slice (nth b.fEnd.fWays.xs j).fArgs.A (nth b.fEnd.fWays.xs j).fArgs.xs.length (nth b.fEnd.fWays.xs j).fArgs.c), (56, .int .i64 (nth b.fEnd.fWays.xs j).fArgs.xs.length), (57, .int .i64 (i : Nat))]) (fun _ => [var 57 b10 (nth b.fEnd.fWays.xs j), var 31 b3 b])
    (fun i => i ≤ (nth b.fEnd.fWays.xs j).fArgs.xs.length ∧ ∀ m, m < i → nth (nth b.fEnd.fWays.xs j).fArgs.xs m ≠ v) (fun i => (nth b.fEnd.fWays.xs j).fArgs.xs.length - i) 0 (by repeat (first | exact trivial | refine ⟨rfl, ?_⟩)) ⟨Nat.zero_le _, fun m hm => absurd hm (Nat.not_lt_zero m)⟩ PSub.refl ?_
  rintro g i ⟨hi, hin⟩
  (repeat' (first | refine s_nil ?_ | (refine k_C ?_; first | refine s_seq ?_ | refine s_region ?_) | (refine k_E ?_; refine e_seq ?_) | (refine k_bin ?_; refine s_lss rfl rfl ?_)))
  (first | (refine k_C ?_; (refine s_ifd rfl ?_ ?_ <;> intro hc <;> try (exfalso; omega))))
  rotate_left
  · have hno : v ∉ (nth b.fEnd.fWays.xs j).fArgs.xs := not_mem_of fun m hm => hin m (by omega)
    (repeat' (first | refine s_move ?_ | refine s_nil ?_ | (refine k_C ?_; first | refine s_region ?_ | refine s_exit ?_) | (refine k_E ?_; first | refine e_seq ?_ | refine e_seq_exit ?_ | refine e_bk_exit ?_ | refine e_bk ?_ | refine e_lp_exit ?_) | (refine k_bin ?_; refine s_add1 rfl rfl om ?_)))
    exact e_lp (j + 1) (by repeat (first | exact trivial | refine ⟨rfl, ?_⟩)) ⟨by show j + 1 ≤ _; omega, fun m hm => by
      rcases Nat.lt_or_ge m j with h | h
      · exact hjn m h
      · obtain rfl : m = j := by have : m < j + 1 := hm; omega
        exact hno⟩ (by show _ - _ < _ - _; omega) (PSub.take [1] rfl)
  have hil : i < (nth b.fEnd.fWays.xs j).fArgs.xs.length := by omega
  (repeat' (first | refine s_move ?_ | refine s_assign ?_ | refine s_nil ?_ | (refine k_C ?_; first | refine s_seq ?_ | refine s_region ?_ | refine s_skip ?_ | refine s_block ?_ | refine s_ret ?_ | (refine s_ifd rfl ?_ ?_ <;> intro hc <;> try (exfalso; omega))) | (refine k_E ?_; first | refine e_seq ?_ | refine e_seq_ret ?_ | refine e_bk_ret ?_ | refine e_bk ?_ | refine e_lp_ret ?_) | (refine k_load ?_; refine s_ldS rfl rfl om rfl ?_) | (refine k_bin ?_; first | refine s_add1 rfl rfl om ?_ | refine s_eql rfl rfl ?_) | (refine k_idx ?_; refine s_idxS rfl rfl om ?_)))
  · exact e_done rfl rfl [] (PSub.take [] rfl) ⟨by unfold touchB; rw [if_neg hk, if_pos (.inr ⟨_, nth_mem hjl, mem_of_nth hil (by assumption)⟩)]; rfl, rfl⟩
  · exact e_lp (i + 1) (by repeat (first | exact trivial | refine ⟨rfl, ?_⟩)) ⟨by show i + 1 ≤ _; omega, fun m hm => by
      rcases Nat.lt_or_ge m i with h | h
      · exact hin m h
      · obtain rfl : m = i := by have : m < i + 1 := hm; omega
        assumption⟩ (by show _ - _ < _ - _; omega) PSub.refl
theorem madeAll_succ {bs : List SsaBlock} {i : Nat} (h : i < bs.length) : madeAll (bs.take (i + 1)) = madeAll (bs.take i) ++ ((nth bs i).fParams.xs ++ dstsB7 ((nth bs i).fIns.xs.take (nth bs i).fIns.xs.length)) := by
  rw [← take_nth h, madeAll_app, List.take_length]; simp [madeAll, madeB]
set_option maxHeartbeats 4000000 in
theorem all15_spec (f : SsaFunc) (hf : OkF f) : Spec Try.prog 13 [.agg (Enc.enc f).toArray] [] (fun ok w => RdD ok w f) fun r L' => ∃ A c, r = .slice A (madeAll f.fBlocks.xs).length c ∧ L' = [own 3 A (madeAll f.fBlocks.xs).length c (madeAll f.fBlocks.xs)] := by
  refine spec_of Try.func13 rfl rfl fun w0 f0 hR => ?_
  have hfb := hf.b
  (repeat' (first | refine s_move ?_ | refine s_assign ?_ | refine s_nil ?_ | (refine k_C ?_; first | refine s_seq ?_ | refine s_region ?_ | refine s_block ?_) | (refine k_E ?_; refine e_seq ?_) | (refine k_load ?_; refine s_ldB rfl rfl ?_) | (refine k_fld ?_; refine s_fldB rfl ?_) | (refine k_call ?_; refine s_len rfl ?_) | (refine s_box _ rfl ?_; intro b) | (refine s_lit [] rfl (by decide) rfl ?_; intro b)))
  rename_i b1
  obtain ⟨b8, rfl⟩ : ∃ q, q = b := ⟨_, rfl⟩
  refine s_loop (σ := Nat × Nat × Option Addr × Nat × List Int) (fun z => [(1, .pointer (some ⟨b1, 0, none⟩)), (3, .slice z.2.2.1 z.2.1 z.2.2.2.1), (10, .slice f.fBlocks.A f.fBlocks.xs.length f.fBlocks.c), (11, .int .i64 f.fBlocks.xs.length), (12, .int .i64 (z.1 : Nat))])
    (fun z => [own 3 z.2.2.1 z.2.1 z.2.2.2.1 z.2.2.2.2, var 38 b1 f]) (fun z => z.1 ≤ f.fBlocks.xs.length ∧ z.2.1 = z.2.2.2.2.length ∧ z.2.1 ≤ 2000 * z.1 ∧ z.2.2.2.2 = madeAll (f.fBlocks.xs.take z.1)) (fun z => f.fBlocks.xs.length - z.1) (0, 0, some ⟨b8, 0, none⟩, 0, []) (by repeat (first | exact trivial | refine ⟨rfl, ?_⟩)) ⟨Nat.zero_le _, rfl, Nat.le_refl _, rfl⟩ PSub.refl ?_
  rintro g ⟨i, l, A, c, xs⟩ ⟨hi, hl, hll, hx⟩
  dsimp only at hi hl hll hx ⊢
  (repeat' (first | refine s_nil ?_ | (refine k_C ?_; first | refine s_seq ?_ | refine s_region ?_) | (refine k_E ?_; refine e_seq ?_) | (refine k_bin ?_; refine s_lss rfl rfl ?_)))
  (first | (refine k_C ?_; (refine s_ifd rfl ?_ ?_ <;> intro hc <;> try (exfalso; omega))))
  rotate_left
  · have hiE : i = f.fBlocks.xs.length := by omega
    subst hiE
    rw [List.take_length] at hx
    subst hl
    subst hx
    (repeat' (first | refine s_move ?_ | refine s_assign ?_ | refine s_nil ?_ | (refine k_C ?_; first | refine s_seq ?_ | refine s_region ?_ | refine s_exit ?_ | refine s_ret ?_) | (refine k_E ?_; first | refine e_seq ?_ | refine e_seq_exit ?_ | refine e_bk_exit ?_ | refine e_lp_exit ?_)))
    exact e_done rfl rfl _ (PSub.take [0] rfl) ⟨A, c, rfl, rfl⟩
  have hin : i < f.fBlocks.xs.length := by omega
  have hbk := hf.k i hin
  have hbp := hbk.p
  have hbi := hbk.i
  (repeat' (first | refine s_move ?_ | refine s_assign ?_ | refine s_nil ?_ | (refine k_C ?_; first | refine s_seq ?_ | refine s_region ?_ | refine s_skip ?_ | refine s_block ?_) | (refine k_E ?_; refine e_seq ?_) | (refine k_load ?_; first | refine s_ldB rfl rfl ?_ | refine s_ldSA rfl rfl om rfl ?_) | (refine k_fld ?_; refine s_fldB rfl ?_) | (refine k_idx ?_; refine s_idxS rfl rfl om ?_) | (refine k_store ?_; refine s_stW _ rfl rfl ?_) | (refine k_call ?_; first | refine s_len rfl ?_ | (refine s_appS rfl rfl om ?_; intro A c)) | (refine s_alloc ?_; intro b)))
  obtain ⟨b5, rfl⟩ : ∃ q, q = b := ⟨_, rfl⟩
  refine s_loop (σ := Nat × Nat × Option Addr × Nat × List Int) (fun z => [(1, .pointer (some ⟨b1, 0, none⟩)), (3, .slice z.2.2.1 z.2.1 z.2.2.2.1), (10, .slice f.fBlocks.A f.fBlocks.xs.length f.fBlocks.c), (11, .int .i64 f.fBlocks.xs.length), (12, .int .i64 (i : Nat)), (21, .slice (nth f.fBlocks.xs i).fIns.A (nth f.fBlocks.xs i).fIns.xs.length (nth f.fBlocks.xs i).fIns.c), (22, .int .i64 (nth f.fBlocks.xs i).fIns.xs.length), (23, .int .i64 (z.1 : Nat))])
    (fun z => [own 3 z.2.2.1 z.2.1 z.2.2.2.1 z.2.2.2.2, var 31 b5 (nth f.fBlocks.xs i), var 38 b1 f]) (fun z => z.1 ≤ (nth f.fBlocks.xs i).fIns.xs.length ∧ z.2.1 = z.2.2.2.2.length ∧ z.2.1 ≤ 2000 * i + 1000 + z.1 ∧ z.2.2.2.2 = madeAll (f.fBlocks.xs.take i) ++ ((nth f.fBlocks.xs i).fParams.xs ++ dstsB7 ((nth f.fBlocks.xs i).fIns.xs.take z.1))) (fun z => (nth f.fBlocks.xs i).fIns.xs.length - z.1) (0, l + (nth f.fBlocks.xs i).fParams.xs.length, A, c, xs ++ (nth f.fBlocks.xs i).fParams.xs) (by repeat (first | exact trivial | refine ⟨rfl, ?_⟩)) ⟨Nat.zero_le _, by show _ = (xs ++ _).length; rw [List.length_append, hl], by show l + _ ≤ _; omega, by show xs ++ _ = _; rw [hx, List.take_zero]; simp [dstsB7]⟩ (PSub.take [1, 0, 0] rfl) ?_
  rintro g2 ⟨j, l2, A2, c2, xs2⟩ ⟨hj, hl2, hll2, hx2⟩
  dsimp only at hj hl2 hll2 hx2 ⊢
  (repeat' (first | refine s_nil ?_ | (refine k_C ?_; first | refine s_seq ?_ | refine s_region ?_) | (refine k_E ?_; refine e_seq ?_) | (refine k_bin ?_; refine s_lss rfl rfl ?_)))
  (first | (refine k_C ?_; (refine s_ifd rfl ?_ ?_ <;> intro hc <;> try (exfalso; omega))))
  rotate_left
  · have hjE : j = (nth f.fBlocks.xs i).fIns.xs.length := by omega
    subst hjE
    (repeat' (first | refine s_move ?_ | refine s_nil ?_ | (refine k_C ?_; first | refine s_region ?_ | refine s_exit ?_) | (refine k_E ?_; first | refine e_seq ?_ | refine e_seq_exit ?_ | refine e_bk_exit ?_ | refine e_bk ?_ | refine e_lp_exit ?_) | (refine k_bin ?_; refine s_add1 rfl rfl om ?_)))
    exact e_lp (i + 1, l2, A2, c2, xs2) (by repeat (first | exact trivial | refine ⟨rfl, ?_⟩)) ⟨by show i + 1 ≤ _; omega, hl2, by show l2 ≤ 2000 * (i + 1); omega, by show xs2 = _; rw [hx2, madeAll_succ hin]⟩ (by show _ - _ < _ - _; omega) (PSub.take [0, 1] rfl)
  have hjn : j < (nth f.fBlocks.xs i).fIns.xs.length := by omega
  (repeat' (first | refine s_move ?_ | refine s_assign ?_ | refine s_nil ?_ | (refine k_C ?_; first | refine s_seq ?_ | refine s_region ?_ | refine s_skip ?_ | refine s_block ?_ | (refine s_ifn rfl ?_ ?_ <;> intro hc <;> try (exfalso; omega))) | (refine k_E ?_; first | refine e_seq ?_ | refine e_bk ?_) | (refine k_load ?_; first | refine s_ldB rfl rfl ?_ | refine s_ldSA rfl rfl om rfl ?_) | (refine k_bin ?_; first | refine s_add1 rfl rfl om ?_ | refine s_neq rfl rfl ?_) | (refine k_fld ?_; refine s_fldB rfl ?_) | (refine k_idx ?_; refine s_idxS rfl rfl om ?_) | (refine k_store ?_; refine s_stW _ rfl rfl ?_) | (refine s_alloc ?_; intro b) | (refine s_app1 _ (fun _ => rfl) rfl om ?_; intro v A c)))
  · exact e_lp (j + 1, l2 + 1, A, c, xs2 ++ [(nth (nth f.fBlocks.xs i).fIns.xs j).fDst]) (by repeat (first | exact trivial | refine ⟨rfl, ?_⟩)) ⟨by show j + 1 ≤ _; omega, by show _ = (xs2 ++ [_]).length; rw [List.length_append, hl2]; rfl, by show l2 + 1 ≤ _ + (j + 1); omega, by
      show xs2 ++ [_] = _ ++ (_ ++ dstsB7 ((nth f.fBlocks.xs i).fIns.xs.take (j + 1)))
      rw [hx2, ← dstsB7_one hjn (by assumption)]; simp⟩ (by show _ - _ < _ - _; omega) (PSub.take [1, 1, 1] rfl)
  · exact e_lp (j + 1, l2, A2, c2, xs2) (by repeat (first | exact trivial | refine ⟨rfl, ?_⟩)) ⟨by show j + 1 ≤ _; omega, hl2, by show l2 ≤ _ + (j + 1); omega, by
      show xs2 = _ ++ (_ ++ dstsB7 ((nth f.fBlocks.xs i).fIns.xs.take (j + 1)))
      rw [hx2, ← dstsB7_none hjn (by assumption)]⟩ (by show _ - _ < _ - _; omega) (PSub.take [1, 1, 1] rfl)
end Go.Proofs.Ytfplmdjlgjgbgaa
