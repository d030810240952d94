/- The walk: MoveRings. -/
import Derived.Test.YtlpbghnphplclaaM7
import Derived.Test.YtlpbghnphplclaaL3
namespace Go.Proofs.Ytlpbghnphplclaa
set_option linter.unusedVariables false
set_option linter.unusedSimpArgs false
open Go Go.RowKit

theorem and15 (a : Int) : ∃ r : Nat, r < 16 ∧ IntKind.i64.wrap ((BitVec.ofInt IntKind.i64.bits a &&& BitVec.ofInt IntKind.i64.bits 15).toNat : Int) = (r : Int) := by
  refine ⟨(BitVec.ofInt IntKind.i64.bits a &&& BitVec.ofInt IntKind.i64.bits 15).toNat, ?_, ?_⟩
  · rw [BitVec.toNat_and]
    exact Nat.lt_of_le_of_lt Nat.and_le_right (by decide)
  · refine i64_in _ ?_
    have : (BitVec.ofInt IntKind.i64.bits a &&& BitVec.ofInt IntKind.i64.bits 15).toNat ≤ 15 := by
      rw [BitVec.toNat_and]
      exact Nat.le_trans Nat.and_le_right (by decide)
    omega

theorem tmod_nat (a b : Nat) : ((a : Int)).tmod (b : Int) = ((a % b : Nat) : Int) := by
  rw [Int.ofNat_tmod]

theorem ringL_at_wf {n m : Nat} (hn : 2 ≤ n) (hs : n + m ≤ 999) : ∀ x ∈ ringL n m, wfm x := by
  intro x hx
  have := ringL_ne hn hx
  exact ⟨by unfold wfi; omega, by unfold wfi; omega⟩

theorem moveRings_any (a0 a1 : Int) (w0 : World) : CallsV Try.prog 5 #[.int .i64 a0, .int .i64 a1] w0 fun v w' => v = .bool true ∧ Step w0 (fun _ => False) w' := by
  refine calls_of (args := [.int .i64 a0, .int .i64 a1]) Try.func5 rfl rfl rfl rfl ?_
  have H := St.begin w0
  repeat refine wC_seq ?_
  refine wC_region ?_
  refine o_assign ?_
  refine o_nil ?_
  repeat refine wC_seq ?_
  refine wC_region ?_
  refine o_callF F_6 (vs := []) rfl (head_any w0) ?_; rintro v w ⟨rfl, hs⟩
  have H := H.idle hs
  refine o_not _ rfl ?_
  refine o_nil ?_
  repeat refine wC_seq ?_
  refine wC_if false rfl ?_
  refine wC_skip ?_
  obtain ⟨r, hr, er⟩ := and15 a0
  obtain ⟨m, hm, em⟩ := and15 a1
  repeat refine wC_seq ?_
  refine wC_region ?_
  refine o_move ?_
  refine o_and rfl rfl ?_
  rw [er]
  refine o_add64 rfl rfl (by omega) ?_
  refine o_assign ?_
  refine o_nil ?_
  obtain ⟨n, hn⟩ : ∃ n : Nat, (2 : Int) + (r : Int) = (n : Int) := ⟨2 + r, by omega⟩
  rw [hn]
  have hn2 : 2 ≤ n := by omega
  have hn3 : n ≤ 17 := by omega
  repeat refine wC_seq ?_
  refine wC_region ?_
  refine o_move ?_
  refine o_and rfl rfl ?_
  rw [em]
  refine o_assign ?_
  refine o_nil ?_
  repeat refine wC_seq ?_
  refine wC_region ?_
  refine o_lit (pv := []) (cells := mvs []) U_22 TI_29 (by decide) rfl (fun _ h => by cases h) rfl H ?_; intro b20 w H
  refine o_assign ?_
  refine o_nil ?_
  repeat refine wC_seq ?_
  refine wC_region ?_
  refine o_mkmap E2 3 H ?_; intro b21 w H
  refine o_assign ?_
  refine o_nil ?_
  repeat refine wC_seq ?_
  refine wC_region ?_
  refine o_assign ?_
  refine o_nil ?_
  repeat refine wC_seq ?_
  refine wC_block ?_
  refine wC_loop (σ := Nat × Option Addr × Nat) (fun s => [(0, .int .i64 (n : Nat)), (1, .int .i64 (m : Nat)), (5, .slice s.2.1 s.1 s.2.2), (6, .map (some b21)), (7, .int .i64 (s.1 : Nat))])
    (fun s w' => s.1 ≤ n ∧ ∃ F, St w0 (fun _ => False) [row s.2.1 s.1 s.2.2 29 2 (mvs ((List.range s.1).map (ringA n))), mp E2 3 b21 s.1 F] w') (fun s => n - s.1)
    (0, some ⟨b20, 0, none⟩, 0) ⟨rfl, rfl, rfl, rfl, rfl, trivial⟩ ⟨Nat.zero_le _, _, H⟩ ?_
  rintro f ⟨k, A, c⟩ w1 ⟨hk, F, H⟩
  simp only at hk H ⊢
  repeat refine wC_seq ?_
  refine wC_region ?_
  refine o_move ?_
  refine o_move ?_
  by_cases hlt : k < n
  · refine o_lss true rfl rfl (by simp; omega) ?_
    refine o_nil ?_
    repeat refine wC_seq ?_
    refine wC_if true rfl ?_
    refine wC_skip ?_
    repeat refine wC_seq ?_
    refine wC_block ?_
    repeat refine wC_seq ?_
    refine wC_region ?_
    refine o_move ?_
    refine o_move ?_
    refine o_move ?_
    refine o_add64 rfl rfl (by omega) ?_
    refine o_move ?_
    refine o_rem rfl rfl (by omega) ?_
    refine o_build (pv := [(0, .int .i64 (k : Nat)), (1, .int .i64 (((k : Int) + 1).tmod (n : Nat)))]) (cells := (⟨(k : Nat), ((k : Int) + 1).tmod (n : Nat)⟩ : Mv).cells) rfl (bd _ _) ?_
    have em : (⟨(k : Nat), ((k : Int) + 1).tmod (n : Nat)⟩ : Mv) = ringA n k := by
      unfold ringA
      congr 1
    rw [em]
    refine o_lit (pv := [(0, (ringA n k).val)]) (cells := mvs [ringA n k]) U_22 TI_29 (by decide) rfl (by simp [Mv.val, Value.cells]) (by rw [mvs_single]; rfl) H ?_; intro b34 w H
    refine o_appR U_22 TI_29 H 0 2 rfl rfl rfl rfl (mvs_one _) (by omega) ?_; intro A' c' w H
    refine o_assign ?_
    refine o_nil ?_
    have H := H.drop 2
    repeat refine wC_seq ?_
    refine wC_region ?_
    refine o_move ?_
    refine o_move ?_
    refine o_move ?_
    refine o_add64 rfl rfl (by omega) ?_
    refine o_put (E := E2) (yv := (k : Int) + 100) U_3 U_23 H 1 rfl rfl rfl rfl (by unfold wfi; omega) (wfi_iff.1 (by unfold wfi; omega)) (by omega) ?_; intro w H
    refine o_nil ?_
    repeat refine wC_seq ?_
    refine wC_region ?_
    refine o_move ?_
    refine o_add64 rfl rfl (by omega) ?_
    refine o_assign ?_
    refine o_nil ?_
    refine ⟨(k + 1, A', c'), ⟨rfl, rfl, rfl, rfl, rfl, trivial⟩, ⟨hlt, upd F (k : Nat) (some ((k : Int) + 100)), ?_⟩, by show n - (k + 1) < n - k; omega⟩
    rw [List.range_succ, List.map_append]
    show St w0 _ [row A' (k + 1) c' 29 2 (mvs ((List.range k).map (ringA n) ++ [ringA n k])), _] w
    rw [mvs_app]
    exact H
  · refine o_lss false rfl rfl (by simp; omega) ?_
    refine o_nil ?_
    repeat refine wC_seq ?_
    refine wC_if false rfl ?_
    refine wC_exit ?_
    obtain rfl : k = n := by omega
    repeat refine wC_seq ?_
    refine wC_region ?_
    refine o_assign ?_
    refine o_nil ?_
    repeat refine wC_seq ?_
    refine wC_block ?_
    refine wC_loop (σ := Nat × Option Addr × Nat) (fun s => [(0, .int .i64 (k : Nat)), (1, .int .i64 (m : Nat)), (5, .slice s.2.1 (k + s.1) s.2.2), (6, .map (some b21)), (8, .int .i64 (s.1 : Nat))])
      (fun s w' => s.1 ≤ m ∧ St w0 (fun _ => False) [row s.2.1 (k + s.1) s.2.2 29 2 (mvs (ringL k s.1)), mp E2 3 b21 k F] w') (fun s => m - s.1)
      (0, A, c) ⟨rfl, rfl, rfl, rfl, rfl, trivial⟩ ⟨Nat.zero_le _, ?_⟩ ?_
    · have : ringL k 0 = (List.range k).map (ringA k) := by simp [ringL]
      show St w0 _ [row A (k + 0) c 29 2 (mvs (ringL k 0)), _] w1
      rw [this]; exact H
    rintro f ⟨j, A, c⟩ w2 ⟨hj, H⟩
    simp only at hj H ⊢
    repeat refine wC_seq ?_
    refine wC_region ?_
    refine o_move ?_
    refine o_move ?_
    by_cases hlt2 : j < m
    · refine o_lss true rfl rfl (by simp; omega) ?_
      refine o_nil ?_
      repeat refine wC_seq ?_
      refine wC_if true rfl ?_
      refine wC_skip ?_
      repeat refine wC_seq ?_
      refine wC_block ?_
      repeat refine wC_seq ?_
      refine wC_region ?_
      refine o_move ?_
      refine o_move ?_
      refine o_move ?_
      refine o_add64 rfl rfl (by omega) ?_
      refine o_move ?_
      refine o_move ?_
      refine o_rem rfl rfl (by omega) ?_
      refine o_build (pv := [(0, .int .i64 ((k : Int) + (j : Int))), (1, .int .i64 (((j : Int)).tmod (k : Nat)))]) (cells := (⟨(k : Int) + (j : Int), ((j : Int)).tmod (k : Nat)⟩ : Mv).cells) rfl (bd _ _) ?_
      have em : (⟨(k : Int) + (j : Int), ((j : Int)).tmod (k : Nat)⟩ : Mv) = ringB k j := by
        unfold ringB
        congr 1
      rw [em]
      refine o_lit (pv := [(0, (ringB k j).val)]) (cells := mvs [ringB k j]) U_22 TI_29 (by decide) rfl (by simp [Mv.val, Value.cells]) (by rw [mvs_single]; rfl) H ?_; intro b34 w H
      refine o_appR U_22 TI_29 H 0 2 rfl rfl rfl rfl (mvs_one _) (by omega) ?_; intro A' c' w H
      refine o_assign ?_
      refine o_nil ?_
      have H := H.drop 2
      repeat refine wC_seq ?_
      refine wC_region ?_
      refine o_move ?_
      refine o_add64 rfl rfl (by omega) ?_
      refine o_assign ?_
      refine o_nil ?_
      refine ⟨(j + 1, A', c'), ⟨rfl, rfl, rfl, rfl, rfl, trivial⟩, ⟨hlt2, ?_⟩, by show m - (j + 1) < m - j; omega⟩
      have e : ringL k (j + 1) = ringL k j ++ [ringB k j] := by
        unfold ringL; rw [List.range_succ, List.map_append, List.append_assoc]; rfl
      show St w0 _ [row A' (k + j + 1) c' 29 2 (mvs (ringL k (j + 1))), _] w
      rw [e, mvs_app]
      exact H
    · refine o_lss false rfl rfl (by simp; omega) ?_
      refine o_nil ?_
      repeat refine wC_seq ?_
      refine wC_if false rfl ?_
      refine wC_exit ?_
      obtain rfl : j = m := by omega
      obtain ⟨hlaw1, hlaw2⟩ := rings_law hn2 (m := j) (by omega) F
      have hwf := ringL_at_wf hn2 (m := j) (by omega)
      have hlen := ringL_len k j
      generalize hxs : ringL k j = xs at *
      rw [← hlen] at H ⊢
      repeat refine wC_seq ?_
      refine wC_region ?_
      refine o_move ?_
      refine o_callF F_9 rfl (line_any 999 w2 (H.rdR 0 rfl) (by omega)) ?_; rintro v w ⟨A8, c8, rfl, hll, H8⟩
      have H := H.call0 _ _ H8
      refine o_assign ?_
      refine o_nil ?_
      repeat refine wC_seq ?_
      refine wC_region ?_
      refine o_move ?_
      refine o_move ?_
      refine o_callF F_8 rfl (do_any w (H.rdR 2 rfl) (H.rdM 1 rfl) (by omega) (by omega) (lineOf_wf (by unfold wfi; omega) hwf)) ?_; rintro v w ⟨bg, rfl, H9⟩
      have H := H.call0 _ _ H9
      generalize hG : doOf (lineOf xs 999) F = G at *
      refine o_assign ?_
      refine o_nil ?_
      repeat refine wC_seq ?_
      refine wC_region ?_
      refine o_move ?_
      refine o_len U_22 rfl ?_
      refine o_move ?_
      refine o_nil ?_
      repeat refine wC_seq ?_
      refine wC_block ?_
      refine wC_loop (σ := Nat) (fun i => [(0, .int .i64 (k : Nat)), (1, .int .i64 (j : Nat)), (6, .map (some b21)), (9, .slice A8 (lineOf xs 999).length c8), (10, .map (some bg)), (60, .slice A xs.length c), (61, .int .i64 xs.length), (62, .int .i64 (i : Nat))])
        (fun i w' => i ≤ xs.length ∧ St w0 (fun _ => False) [row A xs.length c 29 2 (mvs xs), mp E2 3 b21 k F, row A8 (lineOf xs 999).length c8 29 2 (mvs (lineOf xs 999)), mp E2 3 bg (k + (lineOf xs 999).length) G] w') (fun i => xs.length - i)
        0 ⟨rfl, rfl, rfl, rfl, rfl, rfl, rfl, rfl, trivial⟩ ⟨Nat.zero_le _, H⟩ ?_
      rintro f i w3 ⟨hi, H⟩
      repeat refine wC_seq ?_
      refine wC_region ?_
      by_cases hlt3 : i < xs.length
      · refine o_lss true rfl rfl (by simp; omega) ?_
        refine o_nil ?_
        repeat refine wC_seq ?_
        refine wC_if true rfl ?_
        refine wC_skip ?_
        obtain ⟨x, hx⟩ : ∃ x, xs[i]? = some x := ⟨_, List.getElem?_eq_getElem hlt3⟩
        have hmem := List.mem_of_getElem? hx
        obtain ⟨hwt, hwfr⟩ := hwf x hmem
        have heq := hlaw1 x hmem
        repeat refine wC_seq ?_
        refine wC_block ?_
        repeat refine wC_seq ?_
        refine wC_region ?_
        refine o_idxR U_22 TI_29 H 0 rfl rfl rfl (by omega) (by omega) ?_
        rintro a rfl hsp
        refine o_ldRA TA_29 H 0 rfl (i * 2) rfl (by rw [mvs_len]; omega) ?_
        rw [mvs_at hx]
        refine o_alloc TI_29.zero H ?_; intro b12 w H
        refine o_stB (v := x.val) TI_29.size H 4 rfl rfl rfl (Nat.le_refl 2) x.cells_one ?_; intro w H
        refine o_nil ?_
        repeat refine wC_seq ?_
        refine wC_region ?_
        refine o_move ?_
        refine o_fld (fl := fd_29_0) (m := 0) U_29 rfl (T1_3.sz) rfl ?_
        refine o_ldB1 T1_3 H 4 rfl (o := 0) rfl (v := .int .i64 x.to) rfl ?_
        refine o_look U_3 U_23 TI_2.zero H 3 rfl rfl rfl hwt heq ?_
        refine o_move ?_
        refine o_fld (fl := fd_29_1) (m := 0) U_29 rfl (T1_3.sz) rfl ?_
        refine o_ldB1 T1_3 H 4 rfl (o := 1) rfl (v := .int .i64 x.fr) rfl ?_
        refine o_look (rv := vl F x.fr) U_3 U_23 TI_2.zero H 1 rfl rfl rfl hwfr rfl ?_
        refine o_neq false rfl rfl (by simp) ?_
        refine o_nil ?_
        repeat refine wC_seq ?_
        refine wC_if false rfl ?_
        refine wC_skip ?_
        repeat refine wC_seq ?_
        refine wC_region ?_
        refine o_add64 rfl rfl (by omega) ?_
        refine o_move ?_
        refine o_nil ?_
        exact ⟨i + 1, ⟨rfl, rfl, rfl, rfl, rfl, rfl, rfl, rfl, trivial⟩, ⟨hlt3, H.drop 4⟩, by show xs.length - (i + 1) < xs.length - i; omega⟩
      · refine o_lss false rfl rfl (by simp; omega) ?_
        refine o_nil ?_
        repeat refine wC_seq ?_
        refine wC_if false rfl ?_
        refine wC_exit ?_
        repeat refine wC_seq ?_
        refine wC_region ?_
        refine o_move ?_
        refine o_len U_22 rfl ?_
        refine o_move ?_
        refine o_move ?_
        refine o_add64 rfl rfl (by omega) ?_
        refine o_add64 rfl rfl (by omega) ?_
        refine o_eql true rfl rfl (by simp; omega) ?_
        refine o_assign ?_
        refine o_nil ?_
        refine wC_ret ?_
        exact ⟨rfl, H.step⟩
end Go.Proofs.Ytlpbghnphplclaa
