/- The walk: head. -/
import Derived.Test.YtlpbghnphplclaaM6
namespace Go.Proofs.Ytlpbghnphplclaa
set_option linter.unusedVariables false
set_option linter.unusedSimpArgs false
open Go Go.RowKit

def hxs : List Mv := [⟨1, 2⟩, ⟨2, 1⟩]
def hwant : List Mv := [⟨9, 1⟩, ⟨1, 2⟩, ⟨2, 9⟩]
theorem hline : lineOf hxs 9 = hwant := by decide +kernel

theorem head_any (w0 : World) : CallsV Try.prog 6 #[] w0 fun v w' => v = .bool true ∧ Step w0 (fun _ => False) w' := by
  refine calls_of (args := []) Try.func6 rfl rfl rfl rfl ?_
  have H := St.begin w0
  repeat refine wC_seq ?_
  refine wC_region ?_
  refine o_assign ?_
  refine o_nil ?_
  repeat refine wC_seq ?_
  refine wC_region ?_
  refine o_build (pv := [(0, .int .i64 1), (1, .int .i64 2)]) (cells := (⟨1, 2⟩ : Mv).cells) rfl (bd 1 2) ?_
  refine o_build (pv := [(0, .int .i64 2), (1, .int .i64 1)]) (cells := (⟨2, 1⟩ : Mv).cells) rfl (bd 2 1) ?_
  refine o_lit (pv := [(0, (⟨1, 2⟩ : Mv).val), (1, (⟨2, 1⟩ : Mv).val)]) (cells := mvs hxs) U_22 TI_29 (by decide) rfl (by simp [Mv.val, Value.cells]) rfl H ?_; intro b6 w1 H
  refine o_callF F_9 rfl (line_any (A := some ⟨b6, 0, none⟩) (c := 2) (xs := hxs) 9 w1 (H.rdR 0 rfl) (by decide)) ?_
  rintro v w2 ⟨A, c, rfl, _, H2⟩
  have H := H.call0 _ _ H2
  rw [hline] at H ⊢
  refine o_assign ?_
  refine o_nil ?_
  repeat refine wC_seq ?_
  refine wC_region ?_
  refine o_build (pv := [(0, .int .i64 9), (1, .int .i64 1)]) (cells := (⟨9, 1⟩ : Mv).cells) rfl (bd 9 1) ?_
  refine o_build (pv := [(0, .int .i64 1), (1, .int .i64 2)]) (cells := (⟨1, 2⟩ : Mv).cells) rfl (bd 1 2) ?_
  refine o_build (pv := [(0, .int .i64 2), (1, .int .i64 9)]) (cells := (⟨2, 9⟩ : Mv).cells) rfl (bd 2 9) ?_
  refine o_lit (pv := [(0, (⟨9, 1⟩ : Mv).val), (1, (⟨1, 2⟩ : Mv).val), (2, (⟨2, 9⟩ : Mv).val)]) (cells := mvs hwant) U_22 TI_29 (by decide) rfl (by simp [Mv.val, Value.cells]) rfl H ?_; intro b11 w3 H
  refine o_assign ?_
  refine o_nil ?_
  repeat refine wC_seq ?_
  refine wC_region ?_
  refine o_move ?_
  refine o_len U_22 rfl ?_
  refine o_neq false rfl rfl (by decide) ?_
  refine o_nil ?_
  repeat refine wC_seq ?_
  refine wC_if false rfl ?_
  refine wC_skip ?_
  repeat refine wC_seq ?_
  refine wC_region ?_
  refine o_move ?_
  refine o_len U_22 rfl ?_
  refine o_move ?_
  refine o_nil ?_
  repeat refine wC_seq ?_
  refine wC_block ?_
  refine wC_loop (σ := Nat) (fun k => [(1, .slice A hwant.length c), (2, .slice (some ⟨b11, 0, none⟩) 3 3), (16, .int .i64 (hwant.length : Nat)), (17, .int .i64 (k : Nat))])
    (fun k w' => k ≤ 3 ∧ ∃ H0, St w0 (fun _ => False) [H0, row A hwant.length c 29 2 (mvs hwant), row (some ⟨b11, 0, none⟩) 3 3 29 2 (mvs hwant)] w') (fun k => 3 - k)
    0 ⟨rfl, rfl, rfl, rfl, trivial⟩ ⟨Nat.zero_le _, _, H⟩ ?_
  rintro f k w4 ⟨hk, H0, H⟩
  have hwl : hwant.length = 3 := rfl
  repeat refine wC_seq ?_
  refine wC_region ?_
  by_cases hlt : k < 3
  · refine o_lss true rfl rfl (by simp [hwl]; omega) ?_
    refine o_nil ?_
    repeat refine wC_seq ?_
    refine wC_if true rfl ?_
    refine wC_skip ?_
    obtain ⟨m, hm⟩ : ∃ m, hwant[k]? = some m := ⟨_, List.getElem?_eq_getElem (by rw [hwl]; exact hlt)⟩
    repeat refine wC_seq ?_
    refine wC_block ?_
    repeat refine wC_seq ?_
    refine wC_region ?_
    refine o_move ?_
    refine o_assign ?_
    refine o_nil ?_
    repeat refine wC_seq ?_
    refine wC_still fo (by kernel_rfl) ?_
    have H := H.idle (Step.drew w4 _)
    refine o_move ?_
    refine o_move ?_
    refine o_idxR U_22 TI_29 H 1 rfl rfl rfl (by omega) (by rw [hwl]; omega) ?_
    rintro a rfl hsp
    refine o_ldRA TA_29 H 1 rfl (k * 2) rfl (by rw [mvs_len, hwl]; omega) ?_
    rw [mvs_at hm]
    refine o_move ?_
    refine o_move ?_
    refine o_idxR U_22 TI_29 H 2 rfl rfl rfl (by omega) (by omega) ?_
    rintro a' ha' hsp'
    cases ha'
    refine o_ldRA TA_29 H 2 rfl (k * 2) rfl (by rw [mvs_len, hwl]; omega) ?_
    rw [mvs_at hm]
    refine o_neqA true EG_29 rfl rfl (fun w => by rw [eq_29 m m w]; simp) ?_
    refine o_nil ?_
    repeat refine wC_seq ?_
    refine wC_if false rfl ?_
    refine wC_skip ?_
    repeat refine wC_seq ?_
    refine wC_region ?_
    refine o_add64 rfl rfl (by omega) ?_
    refine o_move ?_
    refine o_nil ?_
    exact ⟨k + 1, ⟨rfl, rfl, rfl, rfl, trivial⟩, ⟨hlt, _, H⟩, by show 3 - (k + 1) < 3 - k; omega⟩
  · refine o_lss false rfl rfl (by simp [hwl]; omega) ?_
    refine o_nil ?_
    repeat refine wC_seq ?_
    refine wC_if false rfl ?_
    refine wC_exit ?_
    have H := H.nil
    repeat refine wC_seq ?_
    refine wC_region ?_
    refine o_mkmap E2 3 H ?_; intro b30 w5 H
    refine o_ins (E := E2) (yv := 2) U_3 U_23 H 0 rfl rfl rfl rfl (by unfold wfi; omega) (by show (Lit.int .i64 2).wf = true; decide) (by omega) ?_; intro w5 H
    refine o_move ?_
    refine o_callF F_8 rfl (do_any (xs := []) (v := some b30) (N := 1) (F := upd (fun _ => none) 1 (some 2)) w5 ⟨rfl, Nat.le_refl _, Nat.zero_le _, .inl rfl⟩ (H.rdM 0 rfl) (by omega) (by decide) (fun m h => by cases h)) ?_
    rintro v w6 ⟨b, rfl, H3⟩
    have H := H.call0 _ _ H3
    refine o_look (rv := 2) U_3 U_23 TI_2.zero H 1 rfl rfl rfl (by unfold wfi; omega) (by simp [doOf, upd]) ?_
    refine o_eql true rfl rfl (by decide) ?_
    refine o_assign ?_
    refine o_nil ?_
    refine wC_ret ?_
    exact ⟨rfl, H.step⟩
end Go.Proofs.Ytlpbghnphplclaa
