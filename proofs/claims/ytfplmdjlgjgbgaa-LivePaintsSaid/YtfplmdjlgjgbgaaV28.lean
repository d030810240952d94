/- Layer 15: LivePaints, walked. -/
import Derived.Test.YtfplmdjlgjgbgaaV27
namespace Go.Proofs.Ytfplmdjlgjgbgaa
set_option linter.unusedVariables false
set_option linter.unusedSimpArgs false
open Go Go.RowKit

theorem rows_made {f : SsaFunc} (hG : GoodF f) {I O : Nat → Int → Bool} {N : Nat} (hN : N ≤ f.fBlocks.xs.length) {r : List Int} (hr : r ∈ rowsF f I O N) : ∀ v ∈ r, v ∈ madeAll f.fBlocks.xs := fun v hv => by
  obtain ⟨n, hn, _, h⟩ := rowsF_mem.1 hr
  have hn : n < f.fBlocks.xs.length := by omega
  rcases h with rfl | ⟨k, hk, rfl⟩
  · rcases List.mem_append.1 hv with hv | hv
    · exact List.mem_flatMap.2 ⟨_, nth_mem hn, List.mem_append_left _ hv⟩
    · exact (List.mem_filter.1 hv).1
  · rcases List.mem_append.1 hv with hv | hv
    · split at hv
      · rename_i h0
        rw [List.mem_singleton] at hv
        refine List.mem_flatMap.2 ⟨_, nth_mem hn, List.mem_append_right _ ?_⟩
        unfold dstsB7
        rw [hv]
        exact List.mem_filter.2 ⟨List.mem_map.2 ⟨_, nth_mem hk, rfl⟩, by simpa using h0⟩
      · cases hv
    · exact (List.mem_filter.1 hv).1
theorem max_take {ss : List (List Int)} {j z : Nat} (hj : j < ss.length) (h : ∀ m, z ≤ m ↔ ∀ r ∈ ss.take j, r.length ≤ m) : ∀ m, max z (ss[j]).length ≤ m ↔ ∀ r ∈ ss.take (j + 1), r.length ≤ m := fun m => by
  rw [List.take_succ_eq_append_getElem hj, Nat.max_le, h]
  constructor
  · rintro ⟨h1, h2⟩ r hr
    rcases List.mem_append.1 hr with hr | hr
    · exact h1 r hr
    · rw [List.mem_singleton] at hr; rw [hr]; exact h2
  · exact fun h => ⟨fun r hr => h r (List.mem_append_left _ hr), h _ (List.mem_append_right _ (by simp))⟩
set_option maxHeartbeats 8000000 in
theorem livePaints_spec (p : SsaProg) (most : Int) : Spec Try.prog 5 [.agg (Enc.enc p).toArray, .int .i64 most] [] (fun ok w => RdD ok w p) fun r L' => r = .bool true ∧ L' = [] := by
  refine spec_of Try.func5 rfl rfl fun w0 f0 hR => ?_
  (repeat' (first | refine s_assign ?_ | refine s_nil ?_ | (refine k_C ?_; first | refine s_seq ?_ | refine s_region ?_) | (refine k_E ?_; refine e_seq ?_) | (refine s_box _ rfl ?_; intro b)))
  obtain ⟨b2, rfl⟩ : ∃ q, q = b := ⟨_, rfl⟩
  refine s_call0 head15_spec rfl (fun _ _ => trivial) ?_
  rintro r L' ⟨rfl, rfl⟩
  (repeat' (first | refine s_nil ?_ | (refine k_C ?_; first | refine s_seq ?_ | refine s_region ?_ | refine s_skip ?_ | refine s_iff rfl ?_) | (refine k_E ?_; refine e_seq ?_) | (refine k_load ?_; refine s_ldBW rfl rfl ?_) | refine s_not rfl ?_))
  refine s_call0 (good15_spec p) rfl (fun w1 H => H.rdD (by infer_instance)) ?_
  rintro r L' ⟨gd, rfl, rfl, hgd⟩
  (repeat' (first | refine s_move ?_ | refine s_assign ?_ | refine s_nil ?_ | (refine k_C ?_; first | refine s_seq ?_ | refine s_region ?_ | refine s_skip ?_ | refine s_block ?_ | refine s_ret ?_ | (refine s_if rfl ?_ ?_ <;> intro hc)) | (refine k_E ?_; first | refine e_seq ?_ | refine e_seq_ret ?_) | (refine k_load ?_; refine s_ldB rfl rfl ?_) | (refine k_fld ?_; refine s_fldB rfl ?_) | (refine k_call ?_; refine s_len rfl ?_) | refine s_not rfl ?_))
  · exact e_done rfl rfl [] (PSub.take [] rfl) ⟨rfl, rfl⟩
  obtain ⟨hp, hck⟩ := hgd (by simpa using hc)
  have hpf := hp.f
  have hnone : RdMp (P := Try.prog) EI 3 (okOf w0 f0) w0 none 0 (fun _ => none) := ⟨.inl ⟨rfl, fun _ => rfl⟩⟩
  skip
  refine s_loop (σ := Nat) (fun i => [(1, .int .i64 most), (2, .pointer (some ⟨b2, 0, none⟩)), (26, .slice p.fFuncs.A p.fFuncs.xs.length p.fFuncs.c), (27, .int .i64 p.fFuncs.xs.length), (28, .int .i64 (i : Nat))])
    (fun _ => [var 48 b2 p]) (fun i => i ≤ p.fFuncs.xs.length) (fun i => p.fFuncs.xs.length - i) 0 (by repeat (first | exact trivial | refine ⟨rfl, ?_⟩)) (Nat.zero_le _) PSub.refl ?_
  rintro g i hi
  (repeat' (first | refine s_nil ?_ | (refine k_C ?_; first | refine s_seq ?_ | refine s_region ?_) | (refine k_E ?_; refine e_seq ?_) | (refine k_bin ?_; refine s_lss rfl rfl ?_)))
  (first | (refine k_C ?_; (refine s_ifd rfl ?_ ?_ <;> intro hc <;> try (exfalso; omega))))
  rotate_left
  · (repeat' (first | refine s_assign ?_ | refine s_nil ?_ | (refine k_C ?_; first | refine s_seq ?_ | refine s_region ?_ | refine s_exit ?_ | refine s_ret ?_) | (refine k_E ?_; first | refine e_seq ?_ | refine e_seq_exit ?_ | refine e_bk_exit ?_ | refine e_lp_exit ?_)))
    exact e_done rfl rfl [] (PSub.take [] rfl) ⟨rfl, rfl⟩
  have hin : i < p.fFuncs.xs.length := by omega
  have hFw := hp.k i hin
  have hFo := few_okF hFw
  have hG := good_of hck hin
  have hnb := hFw.b
  have hml := madeAll_few hFw
  (repeat' (first | refine s_move ?_ | refine s_nil ?_ | (refine k_C ?_; first | refine s_seq ?_ | refine s_region ?_ | refine s_skip ?_ | refine s_block ?_) | (refine k_E ?_; refine e_seq ?_) | (refine k_load ?_; first | refine s_ldBW rfl rfl ?_ | refine s_ldSA rfl rfl om rfl ?_) | (refine k_idx ?_; refine s_idxS rfl rfl om ?_) | (refine k_store ?_; refine s_stW _ rfl rfl ?_) | (refine s_alloc ?_; intro b)))
  obtain ⟨b6, rfl⟩ : ∃ q, q = b := ⟨_, rfl⟩
  refine s_call0 (paint15_spec (nth p.fFuncs.xs i) hFo.1 most) rfl (fun w1 H => H.rdD (by infer_instance)) ?_
  rintro r L' (⟨hm1, rfl, rfl⟩ | ⟨hm1, hm2, I, O, o, hQ, ho, ⟨rb, N, R, rfl, hP, rfl⟩ | ⟨rfl, hP, rfl⟩⟩)
  · (repeat' (first | refine s_move ?_ | refine s_assign ?_ | refine s_nil ?_ | (refine k_C ?_; first | refine s_seq ?_ | refine s_region ?_ | refine s_ift rfl ?_ | (refine s_ifd rfl ?_ ?_ <;> intro hc <;> try (exfalso; omega))) | (refine k_E ?_; refine e_seq ?_) | (refine k_bin ?_; first | refine s_lss rfl rfl ?_ | refine s_eql rfl rfl ?_ | refine s_gtr rfl rfl ?_) | (refine k_guard ?_; first | refine s_on rfl rfl ?_ | refine s_off rfl rfl rfl rfl ?_ | (refine s_casesd rfl rfl ?_ ?_ <;> intro hc <;> try (exfalso; omega))) | refine s_pick rfl ?_ | refine s_extract rfl rfl ?_))
    all_goals (refine s_lenCS (E := EI) rfl ?_)
    all_goals (intro ks hk1 hk2)
    all_goals (obtain rfl : ks = [] := List.eq_nil_iff_forall_not_mem.2 fun k hk => (hk2 k).1 hk rfl)
    all_goals ((repeat' (first | refine s_assign ?_ | refine s_nil ?_ | (refine k_C ?_; refine s_ret ?_) | (refine k_E ?_; first | refine e_seq ?_ | refine e_seq_ret ?_ | refine e_bk_ret ?_ | refine e_lp_ret ?_) | (refine k_bin ?_; refine s_eql rfl rfl ?_) | (refine k_guard ?_; refine s_on rfl rfl ?_) | refine s_pick rfl ?_)))
    all_goals (exact e_done rfl rfl [] (PSub.take [] rfl) ⟨rfl, rfl⟩)
  · (repeat' (first | refine s_move ?_ | refine s_assign ?_ | refine s_nil ?_ | (refine k_C ?_; first | refine s_seq ?_ | refine s_region ?_ | refine s_skip ?_ | (refine s_ifd rfl ?_ ?_ <;> intro hc <;> try (exfalso; omega))) | (refine k_E ?_; refine e_seq ?_) | (refine k_load ?_; refine s_ldBW rfl rfl ?_) | (refine k_bin ?_; first | refine s_lss rfl rfl ?_ | refine s_gtr rfl rfl ?_) | (refine k_guard ?_; first | refine s_on rfl rfl ?_ | (refine s_casesd rfl rfl ?_ ?_ <;> intro hc <;> try (exfalso; omega))) | refine s_pick rfl ?_ | refine s_extract rfl rfl ?_))
    refine s_call0 (spots15_spec (nth p.fFuncs.xs i) hFo.1 hFw hG I O hQ) rfl (fun w1 H => H.rdD (by infer_instance)) ?_
    rintro r L' ⟨As, cs, ss, rfl, hsl, hss, rfl⟩
    have hO := ho.g hG.n0
    have hrl : (rowsF (nth p.fFuncs.xs i) I O (nth p.fFuncs.xs i).fBlocks.xs.length).length = ss.length := by rw [← hss, List.length_map]
    (repeat' (first | refine s_move ?_ | refine s_assign ?_ | refine s_nil ?_ | (refine k_C ?_; first | refine s_seq ?_ | refine s_region ?_ | refine s_block ?_) | (refine k_E ?_; refine e_seq ?_) | (refine k_call ?_; refine s_len rfl ?_)))
    refine s_loop (σ := Nat × Nat) (fun q => [(1, .int .i64 most), (2, .pointer (some ⟨b2, 0, none⟩)), (26, .slice p.fFuncs.A p.fFuncs.xs.length p.fFuncs.c), (27, .int .i64 p.fFuncs.xs.length), (28, .int .i64 (i : Nat)), (6, .pointer (some ⟨b6, 0, none⟩)), (9, .slice As ss.length cs), (7, .map (some rb)), (8, .int .i64 0), (53, .slice As ss.length cs), (54, .int .i64 ss.length), (55, .int .i64 (q.1 : Nat)), (10, .int .i64 (q.2 : Nat))]) (fun _ => [mp EI 3 rb N R, own 23 As ss.length cs ss, rws 3 ss, var 38 b6 (nth p.fFuncs.xs i), var 48 b2 p])
      (fun q => q.1 ≤ ss.length ∧ ∀ m, q.2 ≤ m ↔ ∀ r ∈ (rowsF (nth p.fFuncs.xs i) I O (nth p.fFuncs.xs i).fBlocks.xs.length).take q.1, r.length ≤ m) (fun q => ss.length - q.1) (0, 0) (by repeat (first | exact trivial | refine ⟨rfl, ?_⟩)) ⟨Nat.zero_le _, by simp⟩ (PSub.take [2, 0, 0, 0, 0] rfl) ?_
    rintro g2 ⟨j, z⟩ ⟨hj, hz⟩
    dsimp only at hj hz ⊢
    (repeat' (first | refine s_nil ?_ | (refine k_C ?_; first | refine s_seq ?_ | refine s_region ?_) | (refine k_E ?_; refine e_seq ?_) | (refine k_bin ?_; refine s_lss rfl rfl ?_)))
    (first | (refine k_C ?_; (refine s_ifd rfl ?_ ?_ <;> intro hc <;> try (exfalso; omega))))
    · have hjl : j < ss.length := by omega
      have hrow : (nth ss j).xs = (rowsF (nth p.fFuncs.xs i) I O (nth p.fFuncs.xs i).fBlocks.xs.length)[j]'(by rw [hrl]; exact hjl) := by
        rw [nth_get hjl]
        have := List.getElem_map (f := fun s : Sl Int => s.xs) (l := ss) (i := j) (h := by rw [List.length_map]; exact hjl)
        rw [← this]
        congr 1
      have hmx := max_take (by rw [hrl]; exact hjl) hz
      rw [← hrow] at hmx
      (repeat' (first | refine s_move ?_ | refine s_assign ?_ | refine s_nil ?_ | (refine k_C ?_; first | refine s_seq ?_ | refine s_region ?_ | refine s_skip ?_ | refine s_block ?_) | (refine k_E ?_; first | refine e_seq ?_ | refine e_bk ?_) | (refine k_load ?_; refine s_ld rfl om rfl ?_) | (refine k_bin ?_; refine s_add1 rfl rfl om ?_) | (refine k_idx ?_; refine s_idx rfl rfl om ?_) | (refine k_call ?_; first | refine s_len rfl ?_ | refine s_max rfl rfl ?_)))
      rw [show max (z : Int) ((nth ss j).xs.length : Int) = ((max z (nth ss j).xs.length : Nat) : Int) by omega]
      skip
      exact e_lp (j + 1, max z (nth ss j).xs.length) (by repeat (first | exact trivial | refine ⟨rfl, ?_⟩)) ⟨by show j + 1 ≤ _; omega, hmx⟩ (by show _ - _ < _ - _; omega) PSub.refl
    have hjE : j = ss.length := by omega
    subst hjE
    rw [List.take_of_length_le (by omega)] at hz
    have hpe : pressF (nth p.fFuncs.xs i) I O o = z := Nat.le_antisymm ((hG.press hQ hO).2 ((hz z).1 (Nat.le_refl _))) ((hz _).2 ((hG.press hQ hO).1 (Nat.le_refl _)))
    (repeat' (first | (refine k_C ?_; first | refine s_seq ?_ | refine s_region ?_ | refine s_exit ?_) | (refine k_E ?_; first | refine e_seq ?_ | refine e_seq_exit ?_ | refine e_bk_exit ?_ | refine e_lp_exit ?_) | (refine k_load ?_; refine s_ldBW rfl rfl ?_)))
    refine s_call0 (press15_spec (nth p.fFuncs.xs i) hFo.1 hFo.2) rfl (fun w1 H => H.rdD (by infer_instance)) ?_
    rintro r L' ⟨I2, O2, o2, hQ2, ho2, rfl, rfl⟩
    rw [(pressF_uniq hQ2 hQ ho2 ho).trans hpe]
    have hzl : (z : Int) ≤ most := by have := hG.pick_press hQ hO hP; omega
    (repeat' (first | refine s_move ?_ | refine s_assign ?_ | refine s_nil ?_ | (refine k_C ?_; first | refine s_seq ?_ | refine s_region ?_ | refine s_skip ?_ | refine s_block ?_ | refine s_ret ?_ | refine s_iff rfl ?_ | (refine s_ifn rfl ?_ ?_ <;> intro hc <;> try (exfalso; omega))) | (refine k_E ?_; first | refine e_seq ?_ | refine e_seq_ret ?_ | refine e_bk_ret ?_ | refine e_lp_ret ?_) | (refine k_bin ?_; first | refine s_eql rfl rfl ?_ | refine s_neq rfl rfl ?_ | refine s_leq rfl rfl ?_ | refine s_bne rfl rfl ?_) | (refine k_call ?_; refine s_len rfl ?_) | (refine k_guard ?_; first | refine s_on rfl rfl ?_ | (refine s_casesn rfl rfl ?_ ?_ <;> intro hc <;> try (exfalso; omega))) | refine s_pick rfl ?_))
    · exact absurd hc (by simp [hzl])
    refine s_loop (σ := Nat) (fun q => [(1, .int .i64 most), (2, .pointer (some ⟨b2, 0, none⟩)), (26, .slice p.fFuncs.A p.fFuncs.xs.length p.fFuncs.c), (27, .int .i64 p.fFuncs.xs.length), (28, .int .i64 (i : Nat)), (6, .pointer (some ⟨b6, 0, none⟩)), (9, .slice As ss.length cs), (7, .map (some rb)), (8, .int .i64 0), (85, .slice As ss.length cs), (86, .int .i64 ss.length), (87, .int .i64 (q : Nat))]) (fun _ => [mp EI 3 rb N R, own 23 As ss.length cs ss, rws 3 ss, var 38 b6 (nth p.fFuncs.xs i), var 48 b2 p]) (fun q => q ≤ ss.length) (fun q => ss.length - q) 0 (by repeat (first | exact trivial | refine ⟨rfl, ?_⟩)) (Nat.zero_le _) PSub.refl ?_
    rintro g3 j hj
    (repeat' (first | refine s_nil ?_ | (refine k_C ?_; first | refine s_seq ?_ | refine s_region ?_) | (refine k_E ?_; refine e_seq ?_) | (refine k_bin ?_; refine s_lss rfl rfl ?_)))
    (first | (refine k_C ?_; (refine s_ifd rfl ?_ ?_ <;> intro hc <;> try (exfalso; omega))))
    rotate_left
    · (repeat' (first | refine s_move ?_ | refine s_nil ?_ | (refine k_C ?_; first | refine s_region ?_ | refine s_exit ?_) | (refine k_E ?_; first | refine e_seq ?_ | refine e_seq_exit ?_ | refine e_bk_exit ?_ | refine e_bk ?_ | refine e_lp_exit ?_) | (refine k_bin ?_; refine s_add1 rfl rfl om ?_)))
      exact e_lp (i + 1) (by repeat (first | exact trivial | refine ⟨rfl, ?_⟩)) (by omega) (by show _ - _ < _ - _; omega) (PSub.take [4] rfl)
    have hjl : j < ss.length := by omega
    have hrow : (nth ss j).xs ∈ rowsF (nth p.fFuncs.xs i) I O (nth p.fFuncs.xs i).fBlocks.xs.length := by rw [← hss]; exact List.mem_map.2 ⟨_, nth_mem hjl, rfl⟩
    obtain ⟨hr1, hr2⟩ := hG.rows hQ hO hP _ hrow
    have hrm := rows_made hG (Nat.le_refl _) hrow
    have hr64 : (nth ss j).xs.length ≤ 64 := by have := (hG.press hQ hO (m := most.toNat)).1 (hG.pick_press hQ hO hP) _ hrow; omega
    (repeat' (first | refine s_move ?_ | refine s_assign ?_ | refine s_nil ?_ | (refine k_C ?_; first | refine s_seq ?_ | refine s_region ?_ | refine s_skip ?_ | refine s_block ?_) | (refine k_E ?_; refine e_seq ?_) | (refine k_load ?_; refine s_ld rfl om rfl ?_) | (refine k_idx ?_; refine s_idx rfl rfl om ?_) | (refine k_call ?_; refine s_len rfl ?_) | (refine s_mkmapB ?_; intro b)))
    obtain ⟨bt, rfl⟩ : ∃ q, q = b := ⟨_, rfl⟩
    refine s_loop (σ := Nat × Nat × (Int → Option Bool)) (fun q => [(1, .int .i64 most), (2, .pointer (some ⟨b2, 0, none⟩)), (26, .slice p.fFuncs.A p.fFuncs.xs.length p.fFuncs.c), (27, .int .i64 p.fFuncs.xs.length), (28, .int .i64 (i : Nat)), (6, .pointer (some ⟨b6, 0, none⟩)), (9, .slice As ss.length cs), (7, .map (some rb)), (8, .int .i64 0), (85, .slice As ss.length cs), (86, .int .i64 ss.length), (87, .int .i64 (j : Nat)), (15, .map (some bt)), (92, .slice (nth ss j).A (nth ss j).xs.length (nth ss j).c), (93, .int .i64 (nth ss j).xs.length), (94, .int .i64 (q.1 : Nat))]) (fun q => [mp EB 3 bt q.2.1 q.2.2, mp EI 3 rb N R, own 23 As ss.length cs ss, rws 3 ss, var 38 b6 (nth p.fFuncs.xs i), var 48 b2 p])
      (fun q => q.1 ≤ (nth ss j).xs.length ∧ q.2.1 ≤ q.1 ∧ ∀ c, q.2.2 c ≠ none → ∃ m, m < q.1 ∧ R (nth (nth ss j).xs m) = some c) (fun q => (nth ss j).xs.length - q.1) (0, 0, fun _ => none) (by repeat (first | exact trivial | refine ⟨rfl, ?_⟩)) ⟨Nat.zero_le _, Nat.le_refl _, fun c h => absurd rfl h⟩ PSub.refl ?_
    rintro g4 ⟨z2, N2, F2⟩ ⟨hz2, hN2, hF2⟩
    dsimp only at hz2 hN2 hF2 ⊢
    (repeat' (first | refine s_nil ?_ | (refine k_C ?_; first | refine s_seq ?_ | refine s_region ?_) | (refine k_E ?_; refine e_seq ?_) | (refine k_bin ?_; refine s_lss rfl rfl ?_)))
    (first | (refine k_C ?_; (refine s_ifd rfl ?_ ?_ <;> intro hc <;> try (exfalso; omega))))
    rotate_left
    · (repeat' (first | refine s_move ?_ | refine s_nil ?_ | (refine k_C ?_; first | refine s_region ?_ | refine s_exit ?_) | (refine k_E ?_; first | refine e_seq ?_ | refine e_seq_exit ?_ | refine e_bk_exit ?_ | refine e_bk ?_ | refine e_lp_exit ?_) | (refine k_bin ?_; refine s_add1 rfl rfl om ?_)))
      exact e_lp (j + 1) (by repeat (first | exact trivial | refine ⟨rfl, ?_⟩)) (by show j + 1 ≤ _; omega) (by show _ - _ < _ - _; omega) (PSub.take [1, 1, 1, 1, 1] rfl)
    have hzl2 : z2 < (nth ss j).xs.length := by omega
    have hvm := nth_mem hzl2
    obtain ⟨cv, hcv, hRv⟩ := hr1 _ hvm
    have hvw : wfi (nth (nth ss j).xs z2) := madeAll_wf (ok := okOf w0 f0) (w := w0) (f := (nth p.fFuncs.xs i)) (by infer_instance) (hrm _ hvm)
    have hcw : wfi (cv : Int) := ⟨by omega, by omega⟩
    have hFn : F2 (cv : Int) = none := by
      cases hF : F2 (cv : Int) with
      | none => rfl
      | some x =>
        obtain ⟨m, hm, hRm⟩ := hF2 cv (by rw [hF]; simp)
        have := List.pairwise_iff_getElem.1 hr2 m z2 (by omega) hzl2 hm
        rw [← nth_get (by omega), ← nth_get hzl2, hRm, hRv] at this
        exact absurd rfl this
    (repeat' (first | refine s_move ?_ | refine s_assign ?_ | refine s_nil ?_ | (refine k_C ?_; first | refine s_seq ?_ | refine s_region ?_ | refine s_skip ?_ | refine s_block ?_) | (refine k_E ?_; refine e_seq ?_) | (refine k_load ?_; refine s_ldR rfl om rfl ?_) | (refine k_idx ?_; refine s_idxR rfl rfl om ?_)))
    refine s_look_ok rfl rfl hvw ?_
    rw [hRv, Option.getD_some, Option.isSome_some]
    (repeat' (first | refine s_move ?_ | refine s_assign ?_ | refine s_nil ?_ | (refine k_C ?_; first | refine s_seq ?_ | refine s_region ?_) | (refine k_E ?_; refine e_seq ?_) | (refine k_bin ?_; first | refine s_lss rfl rfl ?_ | refine s_geq rfl rfl ?_) | (refine k_guard ?_; first | refine s_on rfl rfl ?_ | (refine s_casesd rfl rfl ?_ ?_ <;> intro hc <;> try (exfalso; omega))) | refine s_not rfl ?_ | refine s_pick rfl ?_ | refine s_extract rfl rfl ?_))
    refine s_look rfl rfl hcw ?_
    rw [hFn, Option.getD_none]
    (repeat' (first | refine s_move ?_ | refine s_nil ?_ | (refine k_C ?_; first | refine s_region ?_ | refine s_skip ?_ | refine s_iff rfl ?_) | (refine k_E ?_; refine e_seq ?_) | refine s_pick rfl ?_))
    refine s_put (yv := true) rfl rfl rfl hcw trivial (by omega) ?_
    (repeat' (first | refine s_move ?_ | refine s_nil ?_ | (refine k_C ?_; refine s_region ?_) | (refine k_E ?_; first | refine e_seq ?_ | refine e_bk ?_) | (refine k_bin ?_; refine s_add1 rfl rfl om ?_)))
    refine e_lp (z2 + 1, N2 + 1, upd F2 cv (some true)) (by repeat (first | exact trivial | refine ⟨rfl, ?_⟩)) ⟨by show z2 + 1 ≤ _; omega, by show N2 + 1 ≤ z2 + 1; omega, fun d hd => ?_⟩ (by show _ - _ < _ - _; omega) PSub.refl
    have hd : upd F2 (cv : Int) (some true) d ≠ none := hd
    unfold upd at hd
    split at hd
    · rename_i e
      exact ⟨z2, Nat.lt_succ_self _, by rw [hRv, e]⟩
    · obtain ⟨m, hm, hRm⟩ := hF2 d hd
      exact ⟨m, Nat.lt_succ_of_lt hm, hRm⟩
  · (repeat' (first | refine s_move ?_ | refine s_assign ?_ | refine s_nil ?_ | (refine k_C ?_; first | refine s_seq ?_ | refine s_region ?_ | refine s_skip ?_ | (refine s_ifd rfl ?_ ?_ <;> intro hc <;> try (exfalso; omega))) | (refine k_E ?_; refine e_seq ?_) | (refine k_load ?_; refine s_ldBW rfl rfl ?_) | (refine k_bin ?_; first | refine s_lss rfl rfl ?_ | refine s_gtr rfl rfl ?_) | (refine k_guard ?_; first | refine s_on rfl rfl ?_ | (refine s_casesd rfl rfl ?_ ?_ <;> intro hc <;> try (exfalso; omega))) | refine s_pick rfl ?_ | refine s_extract rfl rfl ?_))
    refine s_call0 (spots15_spec (nth p.fFuncs.xs i) hFo.1 hFw hG I O hQ) rfl (fun w1 H => H.rdD (by infer_instance)) ?_
    rintro r L' ⟨As, cs, ss, rfl, hsl, hss, rfl⟩
    have hO := ho.g hG.n0
    have hrl : (rowsF (nth p.fFuncs.xs i) I O (nth p.fFuncs.xs i).fBlocks.xs.length).length = ss.length := by rw [← hss, List.length_map]
    (repeat' (first | refine s_move ?_ | refine s_assign ?_ | refine s_nil ?_ | (refine k_C ?_; first | refine s_seq ?_ | refine s_region ?_ | refine s_block ?_) | (refine k_E ?_; refine e_seq ?_) | (refine k_call ?_; refine s_len rfl ?_)))
    refine s_loop (σ := Nat × Nat) (fun q => [(1, .int .i64 most), (2, .pointer (some ⟨b2, 0, none⟩)), (26, .slice p.fFuncs.A p.fFuncs.xs.length p.fFuncs.c), (27, .int .i64 p.fFuncs.xs.length), (28, .int .i64 (i : Nat)), (6, .pointer (some ⟨b6, 0, none⟩)), (9, .slice As ss.length cs), (7, .map none), (8, .int .i64 30), (53, .slice As ss.length cs), (54, .int .i64 ss.length), (55, .int .i64 (q.1 : Nat)), (10, .int .i64 (q.2 : Nat))]) (fun _ => [own 23 As ss.length cs ss, rws 3 ss, var 38 b6 (nth p.fFuncs.xs i), var 48 b2 p])
      (fun q => q.1 ≤ ss.length ∧ ∀ m, q.2 ≤ m ↔ ∀ r ∈ (rowsF (nth p.fFuncs.xs i) I O (nth p.fFuncs.xs i).fBlocks.xs.length).take q.1, r.length ≤ m) (fun q => ss.length - q.1) (0, 0) (by repeat (first | exact trivial | refine ⟨rfl, ?_⟩)) ⟨Nat.zero_le _, by simp⟩ (PSub.take [0, 0, 0, 0] rfl) ?_
    rintro g2 ⟨j, z⟩ ⟨hj, hz⟩
    dsimp only at hj hz ⊢
    (repeat' (first | refine s_nil ?_ | (refine k_C ?_; first | refine s_seq ?_ | refine s_region ?_) | (refine k_E ?_; refine e_seq ?_) | (refine k_bin ?_; refine s_lss rfl rfl ?_)))
    (first | (refine k_C ?_; (refine s_ifd rfl ?_ ?_ <;> intro hc <;> try (exfalso; omega))))
    · have hjl : j < ss.length := by omega
      have hrow : (nth ss j).xs = (rowsF (nth p.fFuncs.xs i) I O (nth p.fFuncs.xs i).fBlocks.xs.length)[j]'(by rw [hrl]; exact hjl) := by
        rw [nth_get hjl]
        have := List.getElem_map (f := fun s : Sl Int => s.xs) (l := ss) (i := j) (h := by rw [List.length_map]; exact hjl)
        rw [← this]
        congr 1
      have hmx := max_take (by rw [hrl]; exact hjl) hz
      rw [← hrow] at hmx
      (repeat' (first | refine s_move ?_ | refine s_assign ?_ | refine s_nil ?_ | (refine k_C ?_; first | refine s_seq ?_ | refine s_region ?_ | refine s_skip ?_ | refine s_block ?_) | (refine k_E ?_; first | refine e_seq ?_ | refine e_bk ?_) | (refine k_load ?_; refine s_ld rfl om rfl ?_) | (refine k_bin ?_; refine s_add1 rfl rfl om ?_) | (refine k_idx ?_; refine s_idx rfl rfl om ?_) | (refine k_call ?_; first | refine s_len rfl ?_ | refine s_max rfl rfl ?_)))
      rw [show max (z : Int) ((nth ss j).xs.length : Int) = ((max z (nth ss j).xs.length : Nat) : Int) by omega]
      skip
      exact e_lp (j + 1, max z (nth ss j).xs.length) (by repeat (first | exact trivial | refine ⟨rfl, ?_⟩)) ⟨by show j + 1 ≤ _; omega, hmx⟩ (by show _ - _ < _ - _; omega) PSub.refl
    have hjE : j = ss.length := by omega
    subst hjE
    rw [List.take_of_length_le (by omega)] at hz
    have hpe : pressF (nth p.fFuncs.xs i) I O o = z := Nat.le_antisymm ((hG.press hQ hO).2 ((hz z).1 (Nat.le_refl _))) ((hz _).2 ((hG.press hQ hO).1 (Nat.le_refl _)))
    (repeat' (first | (refine k_C ?_; first | refine s_seq ?_ | refine s_region ?_ | refine s_exit ?_) | (refine k_E ?_; first | refine e_seq ?_ | refine e_seq_exit ?_ | refine e_bk_exit ?_ | refine e_lp_exit ?_) | (refine k_load ?_; refine s_ldBW rfl rfl ?_)))
    refine s_call0 (press15_spec (nth p.fFuncs.xs i) hFo.1 hFo.2) rfl (fun w1 H => H.rdD (by infer_instance)) ?_
    rintro r L' ⟨I2, O2, o2, hQ2, ho2, rfl, rfl⟩
    rw [(pressF_uniq hQ2 hQ ho2 ho).trans hpe]
    have hzl : ¬ (z : Int) ≤ most := fun h => press_enough hQ ho (M := most.toNat) (by rw [hpe]; omega) hP
    (repeat' (first | refine s_move ?_ | refine s_assign ?_ | refine s_nil ?_ | (refine k_C ?_; first | refine s_seq ?_ | refine s_region ?_ | refine s_skip ?_ | refine s_ret ?_ | refine s_ift rfl ?_ | (refine s_ifn rfl ?_ ?_ <;> intro hc <;> try (exfalso; omega))) | (refine k_E ?_; first | refine e_seq ?_ | refine e_seq_ret ?_ | refine e_bk_ret ?_ | refine e_lp_ret ?_) | (refine k_bin ?_; first | refine s_eql rfl rfl ?_ | refine s_neq rfl rfl ?_ | refine s_leq rfl rfl ?_ | refine s_bne rfl rfl ?_) | (refine k_guard ?_; first | refine s_on rfl rfl ?_ | (refine s_casesn rfl rfl ?_ ?_ <;> intro hc <;> try (exfalso; omega))) | refine s_pick rfl ?_))
    · exact absurd hc (by simp [hzl])
    refine s_lenCS (E := EI) rfl ?_
    intro ks hk1 hk2
    obtain rfl : ks = [] := List.eq_nil_iff_forall_not_mem.2 fun k hk => (hk2 k).1 hk rfl
    (repeat' (first | refine s_move ?_ | refine s_nil ?_ | (refine k_C ?_; first | refine s_region ?_ | refine s_skip ?_ | refine s_exit ?_ | refine s_iff rfl ?_) | (refine k_E ?_; first | refine e_seq ?_ | refine e_seq_exit ?_ | refine e_bk_exit ?_) | (refine k_bin ?_; first | refine s_add1 rfl rfl om ?_ | refine s_neq rfl rfl ?_) | (refine k_guard ?_; refine s_on rfl rfl ?_) | refine s_pick rfl ?_))
    exact e_lp (i + 1) (by repeat (first | exact trivial | refine ⟨rfl, ?_⟩)) (by omega) (by show _ - _ < _ - _; omega) (PSub.take [3] rfl)
end Go.Proofs.Ytfplmdjlgjgbgaa
