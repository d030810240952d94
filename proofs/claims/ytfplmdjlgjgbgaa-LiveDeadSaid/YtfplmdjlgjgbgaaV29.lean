/- Layer 15: LiveDead, walked. -/
import Derived.Test.YtfplmdjlgjgbgaaV27
namespace Go.Proofs.Ytfplmdjlgjgbgaa
set_option linter.unusedVariables false
set_option linter.unusedSimpArgs false
open Go Go.RowKit

set_option maxHeartbeats 8000000 in
theorem liveDead_spec (p : SsaProg) : Spec Try.prog 7 [.agg (Enc.enc p).toArray] [] (fun ok w => RdD ok w p) fun r L' => r = .bool true ∧ L' = [] := by
  refine spec_of Try.func7 rfl rfl fun w0 f0 hR => ?_
  (repeat' (first | refine s_assign ?_ | refine s_nil ?_ | (refine k_C ?_; first | refine s_seq ?_ | refine s_region ?_) | (refine k_E ?_; refine e_seq ?_) | (refine s_box _ rfl ?_; intro b)))
  obtain ⟨b1, rfl⟩ : ∃ q, q = b := ⟨_, rfl⟩
  refine s_call0 head15_spec rfl (fun _ _ => trivial) ?_
  rintro r L' ⟨rfl, rfl⟩
  (repeat' (first | refine s_nil ?_ | (refine k_C ?_; first | refine s_seq ?_ | refine s_region ?_ | refine s_skip ?_ | refine s_iff rfl ?_) | (refine k_E ?_; refine e_seq ?_) | (refine k_load ?_; refine s_ldBW rfl rfl ?_) | refine s_not rfl ?_))
  refine s_call0 (good15_spec p) rfl (fun w1 H => H.rdD (by infer_instance)) ?_
  rintro r L' ⟨gd, rfl, rfl, hgd⟩
  (repeat' (first | refine s_move ?_ | refine s_assign ?_ | refine s_nil ?_ | (refine k_C ?_; first | refine s_seq ?_ | refine s_region ?_ | refine s_skip ?_ | refine s_block ?_ | refine s_ret ?_ | (refine s_if rfl ?_ ?_ <;> intro hc)) | (refine k_E ?_; first | refine e_seq ?_ | refine e_seq_ret ?_) | (refine k_load ?_; refine s_ldB rfl rfl ?_) | (refine k_fld ?_; refine s_fldB rfl ?_) | (refine k_call ?_; refine s_len rfl ?_) | refine s_not rfl ?_))
  · exact e_done rfl rfl [] (PSub.take [] rfl) ⟨rfl, rfl⟩
  obtain ⟨hp, hck⟩ := hgd (by simpa using hc)
  have hpf := hp.f
  skip
  refine s_loop (σ := Nat) (fun i => [(1, .pointer (some ⟨b1, 0, none⟩)), (21, .slice p.fFuncs.A p.fFuncs.xs.length p.fFuncs.c), (22, .int .i64 p.fFuncs.xs.length), (23, .int .i64 (i : Nat))])
    (fun _ => [var 48 b1 p]) (fun i => i ≤ p.fFuncs.xs.length) (fun i => p.fFuncs.xs.length - i) 0 (by repeat (first | exact trivial | refine ⟨rfl, ?_⟩)) (Nat.zero_le _) PSub.refl ?_
  rintro g i hi
  (repeat' (first | refine s_nil ?_ | (refine k_C ?_; first | refine s_seq ?_ | refine s_region ?_) | (refine k_E ?_; refine e_seq ?_) | (refine k_bin ?_; refine s_lss rfl rfl ?_)))
  (first | (refine k_C ?_; (refine s_ifd rfl ?_ ?_ <;> intro hc <;> try (exfalso; omega))))
  rotate_left
  · (repeat' (first | refine s_assign ?_ | refine s_nil ?_ | (refine k_C ?_; first | refine s_seq ?_ | refine s_region ?_ | refine s_exit ?_ | refine s_ret ?_) | (refine k_E ?_; first | refine e_seq ?_ | refine e_seq_exit ?_ | refine e_bk_exit ?_ | refine e_lp_exit ?_)))
    exact e_done rfl rfl [] (PSub.take [] rfl) ⟨rfl, rfl⟩
  have hin : i < p.fFuncs.xs.length := by omega
  have hFw := hp.k i hin
  have hFo := few_okF hFw
  have hG := good_of hck hin
  have hnb := hFw.b
  have hml := madeAll_few hFw
  (repeat' (first | refine s_nil ?_ | (refine k_C ?_; first | refine s_seq ?_ | refine s_region ?_ | refine s_skip ?_ | refine s_block ?_) | (refine k_E ?_; refine e_seq ?_) | (refine k_load ?_; first | refine s_ldBW rfl rfl ?_ | refine s_ldSA rfl rfl om rfl ?_) | (refine k_idx ?_; refine s_idxS rfl rfl om ?_) | (refine k_store ?_; refine s_stW _ rfl rfl ?_) | (refine s_alloc ?_; intro b)))
  obtain ⟨b4, rfl⟩ : ∃ q, q = b := ⟨_, rfl⟩
  refine s_call0 (paint15_spec (nth p.fFuncs.xs i) hFo.1 64) rfl (fun w1 H => H.rdD (by infer_instance)) ?_
  rintro r L' (⟨hm1, _, _⟩ | ⟨_, _, I, O, o, hQ, ho, ⟨rb, N, R, rfl, hP, rfl⟩ | ⟨rfl, hP, rfl⟩⟩)
  · omega
  rotate_left
  · (repeat' (first | refine s_move ?_ | refine s_assign ?_ | refine s_nil ?_ | (refine k_C ?_; first | refine s_seq ?_ | refine s_region ?_ | refine s_ift rfl ?_) | (refine k_E ?_; refine e_seq ?_) | (refine k_load ?_; refine s_ldBW rfl rfl ?_) | (refine k_bin ?_; refine s_neq rfl rfl ?_) | refine s_extract rfl rfl ?_))
    refine s_call0 (press15_spec (nth p.fFuncs.xs i) hFo.1 hFo.2) rfl (fun w1 H => H.rdD (by infer_instance)) ?_
    rintro r L' ⟨I2, O2, o2, hQ2, ho2, rfl, rfl⟩
    have hbig : (64 : Int) < (pressF (nth p.fFuncs.xs i) I2 O2 o2 : Nat) := by
      rw [pressF_uniq hQ2 hQ ho2 ho]
      have : ¬ pressF (nth p.fFuncs.xs i) I O o ≤ 64 := fun h => press_enough hQ ho (M := 64) h hP
      omega
    (repeat' (first | refine s_assign ?_ | refine s_nil ?_ | (refine k_C ?_; refine s_ret ?_) | (refine k_E ?_; first | refine e_seq ?_ | refine e_seq_ret ?_ | refine e_bk_ret ?_ | refine e_lp_ret ?_) | (refine k_bin ?_; refine s_gtr rfl rfl ?_)))
    exact e_done rfl rfl [] (PSub.take [] rfl) ⟨congrArg Value.bool (decide_eq_true hbig), rfl⟩
  have hO := ho.g hG.n0
  (repeat' (first | refine s_move ?_ | refine s_assign ?_ | refine s_nil ?_ | (refine k_C ?_; first | refine s_seq ?_ | refine s_region ?_ | refine s_skip ?_ | refine s_block ?_ | refine s_iff rfl ?_) | (refine k_E ?_; refine e_seq ?_) | (refine k_load ?_; refine s_ldB rfl rfl ?_) | (refine k_bin ?_; refine s_neq rfl rfl ?_) | (refine k_fld ?_; refine s_fldB rfl ?_) | (refine k_call ?_; refine s_len rfl ?_) | refine s_extract rfl rfl ?_))
  refine s_loop (σ := Nat) (fun n => [(1, .pointer (some ⟨b1, 0, none⟩)), (21, .slice p.fFuncs.A p.fFuncs.xs.length p.fFuncs.c), (22, .int .i64 p.fFuncs.xs.length), (23, .int .i64 (i : Nat)), (4, .pointer (some ⟨b4, 0, none⟩)), (5, .map (some rb)), (38, .slice (nth p.fFuncs.xs i).fBlocks.A (nth p.fFuncs.xs i).fBlocks.xs.length (nth p.fFuncs.xs i).fBlocks.c), (39, .int .i64 (nth p.fFuncs.xs i).fBlocks.xs.length), (40, .int .i64 (n : Nat))]) (fun _ => [mp EI 3 rb N R, var 38 b4 (nth p.fFuncs.xs i), var 48 b1 p]) (fun n => n ≤ (nth p.fFuncs.xs i).fBlocks.xs.length) (fun n => (nth p.fFuncs.xs i).fBlocks.xs.length - n) 0 (by repeat (first | exact trivial | refine ⟨rfl, ?_⟩)) (Nat.zero_le _) PSub.refl ?_
  rintro g2 n hn
  (repeat' (first | refine s_nil ?_ | (refine k_C ?_; first | refine s_seq ?_ | refine s_region ?_) | (refine k_E ?_; refine e_seq ?_) | (refine k_bin ?_; refine s_lss rfl rfl ?_)))
  (first | (refine k_C ?_; (refine s_ifd rfl ?_ ?_ <;> intro hc <;> try (exfalso; omega))))
  rotate_left
  · (repeat' (first | refine s_move ?_ | refine s_nil ?_ | (refine k_C ?_; first | refine s_region ?_ | refine s_exit ?_) | (refine k_E ?_; first | refine e_seq ?_ | refine e_seq_exit ?_ | refine e_bk_exit ?_ | refine e_bk ?_ | refine e_lp_exit ?_) | (refine k_bin ?_; refine s_add1 rfl rfl om ?_)))
    exact e_lp (i + 1) (by repeat (first | exact trivial | refine ⟨rfl, ?_⟩)) (by omega) (by show _ - _ < _ - _; omega) (PSub.take [2] rfl)
  have hnn : n < (nth p.fFuncs.xs i).fBlocks.xs.length := by omega
  have hbi := (hFw.k n hnn).i
  (repeat' (first | refine s_move ?_ | refine s_assign ?_ | refine s_nil ?_ | (refine k_C ?_; first | refine s_seq ?_ | refine s_region ?_ | refine s_skip ?_ | refine s_block ?_) | (refine k_E ?_; refine e_seq ?_) | (refine k_load ?_; first | refine s_ldBW rfl rfl ?_ | refine s_ldSA rfl rfl om rfl ?_) | (refine k_idx ?_; refine s_idxS rfl rfl om ?_) | (refine k_store ?_; refine s_stW _ rfl rfl ?_) | (refine s_alloc ?_; intro b)))
  obtain ⟨b8, rfl⟩ : ∃ q, q = b := ⟨_, rfl⟩
  refine s_call0 (reach7_spec (nth p.fFuncs.xs i) hFo.1.fewF) rfl (fun w1 H => H.rdD (by infer_instance)) ?_
  rintro r L' ⟨A3, c3, rfl, rfl⟩
  (repeat' (first | refine s_move ?_ | refine s_nil ?_ | (refine k_C ?_; first | refine s_seq ?_ | refine s_region ?_ | refine s_skip ?_ | refine s_block ?_ | refine s_exit ?_ | (refine s_if rfl ?_ ?_ <;> intro hc)) | (refine k_E ?_; first | refine e_seq ?_ | refine e_seq_exit ?_ | refine e_bk_exit ?_) | (refine k_load ?_; first | refine s_ldB rfl rfl ?_ | refine s_ld rfl om rfl ?_) | (refine k_bin ?_; refine s_add1 rfl rfl om ?_) | (refine k_fld ?_; refine s_fldB rfl ?_) | (refine k_idx ?_; refine s_idx rfl rfl om ?_) | (refine k_call ?_; refine s_len rfl ?_) | refine s_not rfl ?_))
  · exact e_lp (n + 1) (by repeat (first | exact trivial | refine ⟨rfl, ?_⟩)) (by show n + 1 ≤ _; omega) (by show _ - _ < _ - _; omega) (PSub.take [2, 2, 2] rfl)
  have hrn : nth (reachB7 (nth p.fFuncs.xs i)) n = true := by simpa using hc
  refine s_loop (σ := Nat) (fun k => [(1, .pointer (some ⟨b1, 0, none⟩)), (21, .slice p.fFuncs.A p.fFuncs.xs.length p.fFuncs.c), (22, .int .i64 p.fFuncs.xs.length), (23, .int .i64 (i : Nat)), (4, .pointer (some ⟨b4, 0, none⟩)), (5, .map (some rb)), (38, .slice (nth p.fFuncs.xs i).fBlocks.A (nth p.fFuncs.xs i).fBlocks.xs.length (nth p.fFuncs.xs i).fBlocks.c), (39, .int .i64 (nth p.fFuncs.xs i).fBlocks.xs.length), (40, .int .i64 (n : Nat)), (7, .int .i64 (n : Nat)), (8, .pointer (some ⟨b8, 0, none⟩)), (52, .slice (nth (nth p.fFuncs.xs i).fBlocks.xs n).fIns.A (nth (nth p.fFuncs.xs i).fBlocks.xs n).fIns.xs.length (nth (nth p.fFuncs.xs i).fBlocks.xs n).fIns.c), (53, .int .i64 (nth (nth p.fFuncs.xs i).fBlocks.xs n).fIns.xs.length), (54, .int .i64 (k : Nat))]) (fun _ => [var 31 b8 (nth (nth p.fFuncs.xs i).fBlocks.xs n), mp EI 3 rb N R, var 38 b4 (nth p.fFuncs.xs i), var 48 b1 p]) (fun k => k ≤ (nth (nth p.fFuncs.xs i).fBlocks.xs n).fIns.xs.length) (fun k => (nth (nth p.fFuncs.xs i).fBlocks.xs n).fIns.xs.length - k) 0 (by repeat (first | exact trivial | refine ⟨rfl, ?_⟩)) (Nat.zero_le _) (PSub.take [1, 1, 1, 1] rfl) ?_
  rintro g3 k hk
  (repeat' (first | refine s_nil ?_ | (refine k_C ?_; first | refine s_seq ?_ | refine s_region ?_) | (refine k_E ?_; refine e_seq ?_) | (refine k_bin ?_; refine s_lss rfl rfl ?_)))
  (first | (refine k_C ?_; (refine s_ifd rfl ?_ ?_ <;> intro hc <;> try (exfalso; omega))))
  rotate_left
  · (repeat' (first | refine s_move ?_ | refine s_nil ?_ | (refine k_C ?_; first | refine s_region ?_ | refine s_exit ?_) | (refine k_E ?_; first | refine e_seq ?_ | refine e_seq_exit ?_ | refine e_bk_exit ?_ | refine e_bk ?_ | refine e_lp_exit ?_) | (refine k_bin ?_; refine s_add1 rfl rfl om ?_)))
    exact e_lp (n + 1) (by repeat (first | exact trivial | refine ⟨rfl, ?_⟩)) (by show n + 1 ≤ _; omega) (by show _ - _ < _ - _; omega) (PSub.take [1, 1, 1] rfl)
  have hkl : k < (nth (nth p.fFuncs.xs i).fBlocks.xs n).fIns.xs.length := by omega
  (repeat' (first | refine s_move ?_ | refine s_assign ?_ | refine s_nil ?_ | (refine k_C ?_; first | refine s_seq ?_ | refine s_region ?_ | refine s_skip ?_ | refine s_block ?_ | refine s_exit ?_ | (refine s_ifd rfl ?_ ?_ <;> intro hc <;> try (exfalso; omega))) | (refine k_E ?_; first | refine e_seq ?_ | refine e_seq_exit ?_ | refine e_bk_exit ?_) | (refine k_load ?_; first | refine s_ldB rfl rfl ?_ | refine s_ldSA rfl rfl om rfl ?_) | (refine k_bin ?_; first | refine s_add1 rfl rfl om ?_ | refine s_eql rfl rfl ?_) | (refine k_fld ?_; refine s_fldB rfl ?_) | (refine k_idx ?_; refine s_idxS rfl rfl om ?_) | (refine k_store ?_; refine s_stW _ rfl rfl ?_) | (refine s_alloc ?_; intro b)))
  · exact e_lp (k + 1) (by repeat (first | exact trivial | refine ⟨rfl, ?_⟩)) (by show k + 1 ≤ _; omega) (by show _ - _ < _ - _; omega) (PSub.take [1, 1, 1, 1] rfl)
  obtain ⟨b10, rfl⟩ : ∃ q, q = b := ⟨_, rfl⟩
  have hd0 : (nth (nth (nth p.fFuncs.xs i).fBlocks.xs n).fIns.xs k).fDst ≠ 0 := by assumption
  obtain ⟨hr1, hr2⟩ := hG.insRow hQ hO hP hnn hrn hkl
  have hdm : (nth (nth (nth p.fFuncs.xs i).fBlocks.xs n).fIns.xs k).fDst ∈ insR (nth p.fFuncs.xs i) O n k := List.mem_append_left _ (by rw [if_pos hd0]; simp)
  obtain ⟨cv, hcv, hRd⟩ := hr1 _ hdm
  have hdw : wfi (nth (nth (nth p.fFuncs.xs i).fBlocks.xs n).fIns.xs k).fDst := by
    have : RdD (okOf w0 f0) w0 (nth (nth (nth p.fFuncs.xs i).fBlocks.xs n).fIns.xs k) := by infer_instance
    exact RdD.int (ok := okOf w0 f0) (w := w0) (by infer_instance)
  refine s_look_ok rfl rfl hdw ?_
  rw [hRd, Option.getD_some, Option.isSome_some]
  (repeat' (first | refine s_move ?_ | refine s_assign ?_ | refine s_nil ?_ | (refine k_C ?_; first | refine s_seq ?_ | refine s_region ?_ | refine s_skip ?_ | refine s_iff rfl ?_) | (refine k_E ?_; refine e_seq ?_) | (refine k_load ?_; refine s_ldBW rfl rfl ?_) | refine s_not rfl ?_ | refine s_extract rfl rfl ?_))
  refine s_call0 (all15_spec (nth p.fFuncs.xs i) hFo.1) rfl (fun w1 H => H.rdD (by infer_instance)) ?_
  rintro r L' ⟨A4, c4, rfl, rfl⟩
  have hx : ∀ v ∈ (madeAll (nth p.fFuncs.xs i).fBlocks.xs), v ≠ (nth (nth (nth p.fFuncs.xs i).fBlocks.xs n).fIns.xs k).fDst → liveB (nth (nth p.fFuncs.xs i).fBlocks.xs n) (O n) (k + 1) v = true → (R v).getD EI.zero ≠ (cv : Int) := fun v hv hvd hvl e => by
    have hvm : v ∈ insR (nth p.fFuncs.xs i) O n k := List.mem_append_right _ (List.mem_filter.2 ⟨hv, by simp [hvd, hvl]⟩)
    obtain ⟨d, hd, hRv⟩ := hr1 v hvm
    rw [hRv, Option.getD_some] at e
    have h1 := hG.entry hQ hO hP
    obtain ⟨x, hxl, hxe⟩ := List.getElem_of_mem hvm
    obtain ⟨y, hyl, hye⟩ := List.getElem_of_mem hdm
    have hpw := List.pairwise_iff_getElem.1 hr2
    rcases Nat.lt_trichotomy x y with h | h | h
    · have := hpw x y hxl hyl h
      rw [hxe, hye, hRv, hRd, e] at this
      exact this rfl
    · subst h
      exact hvd (hxe.symm.trans hye)
    · have := hpw y x hyl hxl h
      rw [hxe, hye, hRv, hRd, e] at this
      exact this rfl
  (repeat' (first | refine s_move ?_ | refine s_nil ?_ | (refine k_C ?_; refine s_block ?_) | (refine k_E ?_; refine e_seq ?_) | (refine k_call ?_; refine s_len rfl ?_)))
  refine s_loop (σ := Nat) (fun z => [(1, .pointer (some ⟨b1, 0, none⟩)), (21, .slice p.fFuncs.A p.fFuncs.xs.length p.fFuncs.c), (22, .int .i64 p.fFuncs.xs.length), (23, .int .i64 (i : Nat)), (4, .pointer (some ⟨b4, 0, none⟩)), (5, .map (some rb)), (38, .slice (nth p.fFuncs.xs i).fBlocks.A (nth p.fFuncs.xs i).fBlocks.xs.length (nth p.fFuncs.xs i).fBlocks.c), (39, .int .i64 (nth p.fFuncs.xs i).fBlocks.xs.length), (40, .int .i64 (n : Nat)), (7, .int .i64 (n : Nat)), (8, .pointer (some ⟨b8, 0, none⟩)), (52, .slice (nth (nth p.fFuncs.xs i).fBlocks.xs n).fIns.A (nth (nth p.fFuncs.xs i).fBlocks.xs n).fIns.xs.length (nth (nth p.fFuncs.xs i).fBlocks.xs n).fIns.c), (53, .int .i64 (nth (nth p.fFuncs.xs i).fBlocks.xs n).fIns.xs.length), (54, .int .i64 (k : Nat)), (9, .int .i64 (k : Nat)), (10, .pointer (some ⟨b10, 0, none⟩)), (11, .int .i64 (cv : Nat)), (72, .slice A4 (madeAll (nth p.fFuncs.xs i).fBlocks.xs).length c4), (73, .int .i64 (madeAll (nth p.fFuncs.xs i).fBlocks.xs).length), (74, .int .i64 (z : Nat))]) (fun _ => [own 3 A4 (madeAll (nth p.fFuncs.xs i).fBlocks.xs).length c4 (madeAll (nth p.fFuncs.xs i).fBlocks.xs), var 35 b10 (nth (nth (nth p.fFuncs.xs i).fBlocks.xs n).fIns.xs k), var 31 b8 (nth (nth p.fFuncs.xs i).fBlocks.xs n), mp EI 3 rb N R, var 38 b4 (nth p.fFuncs.xs i), var 48 b1 p]) (fun z => z ≤ (madeAll (nth p.fFuncs.xs i).fBlocks.xs).length) (fun z => (madeAll (nth p.fFuncs.xs i).fBlocks.xs).length - z) 0 (by repeat (first | exact trivial | refine ⟨rfl, ?_⟩)) (Nat.zero_le _) PSub.refl ?_
  rintro g4 z hz
  (repeat' (first | refine s_nil ?_ | (refine k_C ?_; first | refine s_seq ?_ | refine s_region ?_) | (refine k_E ?_; refine e_seq ?_) | (refine k_bin ?_; refine s_lss rfl rfl ?_)))
  (first | (refine k_C ?_; (refine s_ifd rfl ?_ ?_ <;> intro hc <;> try (exfalso; omega))))
  rotate_left
  · (repeat' (first | refine s_move ?_ | refine s_nil ?_ | (refine k_C ?_; first | refine s_region ?_ | refine s_exit ?_) | (refine k_E ?_; first | refine e_seq ?_ | refine e_seq_exit ?_ | refine e_bk_exit ?_ | refine e_bk ?_ | refine e_lp_exit ?_) | (refine k_bin ?_; refine s_add1 rfl rfl om ?_)))
    exact e_lp (k + 1) (by repeat (first | exact trivial | refine ⟨rfl, ?_⟩)) (by show k + 1 ≤ _; omega) (by show _ - _ < _ - _; omega) (PSub.take [2, 2, 2, 2] rfl)
  have hzl : z < (madeAll (nth p.fFuncs.xs i).fBlocks.xs).length := by omega
  have hvm := nth_mem hzl
  have hvw : wfi (nth (madeAll (nth p.fFuncs.xs i).fBlocks.xs) z) := madeAll_wf (ok := okOf w0 f0) (w := w0) (f := (nth p.fFuncs.xs i)) (by infer_instance) hvm
  have hv0 := hG.pos _ hvm
  (repeat' (first | refine s_move ?_ | refine s_assign ?_ | refine s_nil ?_ | (refine k_C ?_; first | refine s_seq ?_ | refine s_region ?_ | refine s_skip ?_ | refine s_block ?_ | refine s_iff rfl ?_) | (refine k_E ?_; first | refine e_seq ?_ | refine e_bk ?_) | (refine k_load ?_; first | refine s_ldB rfl rfl ?_ | refine s_ld rfl om rfl ?_) | (refine k_bin ?_; first | refine s_add1 rfl rfl om ?_ | refine s_neq rfl rfl ?_) | (refine k_fld ?_; refine s_fldB rfl ?_) | (refine k_idx ?_; refine s_idx rfl rfl om ?_) | (refine k_guard ?_; first | refine s_on rfl rfl ?_ | refine s_off rfl rfl rfl rfl ?_ | (refine s_casesn rfl rfl ?_ ?_ <;> intro hc <;> try (exfalso; omega))) | refine s_pick rfl ?_))
  · have hvd : ¬ nth (madeAll (nth p.fFuncs.xs i).fBlocks.xs) z = (nth (nth (nth p.fFuncs.xs i).fBlocks.xs n).fIns.xs k).fDst := by assumption
    refine s_look rfl rfl hvw ?_
    (repeat' (first | refine s_move ?_ | refine s_nil ?_ | (refine k_C ?_; first | refine s_region ?_ | refine s_skip ?_ | refine s_iff rfl ?_) | (refine k_E ?_; first | refine e_seq ?_ | refine e_bk ?_) | (refine k_load ?_; refine s_ldBW rfl rfl ?_) | (refine k_bin ?_; first | refine s_add1 rfl rfl om ?_ | refine s_eql rfl rfl ?_) | (refine k_guard ?_; first | refine s_on rfl rfl ?_ | refine s_off rfl rfl rfl rfl ?_ | (refine s_casesd rfl rfl ?_ ?_ <;> intro hc <;> try (exfalso; omega))) | refine s_pick rfl ?_))
    · have hsp := later15_spec (nth p.fFuncs.xs i) hFo.1 hFw (fun b hb => hG.way hb) I O hQ n (k + 1) hnn (by omega) (nth (madeAll (nth p.fFuncs.xs i).fBlocks.xs) z) (by omega)
      refine s_call0 hsp rfl (fun w1 H => H.rdD (by infer_instance)) ?_
      rintro r L' ⟨rfl, rfl⟩
      (repeat' (first | refine s_move ?_ | refine s_assign ?_ | refine s_nil ?_ | (refine k_C ?_; first | refine s_seq ?_ | refine s_region ?_ | refine s_skip ?_ | refine s_ret ?_ | (refine s_if rfl ?_ ?_ <;> intro hc)) | (refine k_E ?_; first | refine e_seq ?_ | refine e_seq_ret ?_ | refine e_bk_ret ?_ | refine e_bk ?_ | refine e_lp_ret ?_) | (refine k_bin ?_; refine s_add1 rfl rfl om ?_) | refine s_pick rfl ?_))
      · exact absurd (by assumption) (hx _ hvm hvd (by assumption))
      exact e_lp (z + 1) (by repeat (first | exact trivial | refine ⟨rfl, ?_⟩)) (by show z + 1 ≤ _; omega) (by show _ - _ < _ - _; omega) PSub.refl
    exact e_lp (z + 1) (by repeat (first | exact trivial | refine ⟨rfl, ?_⟩)) (by show z + 1 ≤ _; omega) (by show _ - _ < _ - _; omega) PSub.refl
  exact e_lp (z + 1) (by repeat (first | exact trivial | refine ⟨rfl, ?_⟩)) (by show z + 1 ≤ _; omega) (by show _ - _ < _ - _; omega) PSub.refl
end Go.Proofs.Ytfplmdjlgjgbgaa
