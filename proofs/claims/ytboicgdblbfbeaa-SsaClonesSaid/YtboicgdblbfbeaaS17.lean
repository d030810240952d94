/- Layer 7: head. -/
import Derived.Test.YtboicgdblbfbeaaS16
import Derived.Test.YtboicgdblbfbeaaA11
namespace Go.Proofs.Ytboicgdblbfbeaa
set_option linter.unusedVariables false
set_option linter.unusedSimpArgs false
open Go Go.RowKit

def fewFB (f : SsaFunc) : Bool := Nat.ble f.fBlocks.xs.length 1000 && f.fBlocks.xs.all fun b => Nat.ble b.fParams.xs.length 1000 && Nat.ble b.fIns.xs.length 1000 && Nat.ble b.fEnd.fWays.xs.length 1000
theorem fewF_of {f : SsaFunc} (h : fewFB f = true) : FewF f := by
  unfold fewFB at h
  simp only [Bool.and_eq_true, List.all_eq_true, Nat.ble_eq] at h
  have hd : ∀ i, ((nth f.fBlocks.xs i).fParams.xs.length ≤ 1000 ∧ (nth f.fBlocks.xs i).fIns.xs.length ≤ 1000) ∧ (nth f.fBlocks.xs i).fEnd.fWays.xs.length ≤ 1000 := fun i => by
    by_cases hi : i < f.fBlocks.xs.length
    · exact h.2 _ (nth_mem hi)
    · rw [nth_out (by omega)]
      exact ⟨⟨Nat.zero_le _, Nat.zero_le _⟩, Nat.zero_le _⟩
  exact ⟨h.1, fun i => (hd i).1.1, fun i => (hd i).1.2, fun i => (hd i).2⟩
def fewPB (p : SsaProg) : Bool := Nat.ble p.fArrays.xs.length 100000 && Nat.ble p.fFuncs.xs.length 100000 && p.fFuncs.xs.all fewFB
theorem fewP_of {p : SsaProg} (h : fewPB p = true) : FewP p := by
  unfold fewPB at h
  simp only [Bool.and_eq_true, List.all_eq_true, Nat.ble_eq] at h
  refine ⟨h.1.1, h.1.2, fun i => ?_⟩
  by_cases hi : i < p.fFuncs.xs.length
  · exact fewF_of (h.2 _ (nth_mem hi))
  · rw [nth_out (by omega)]
    exact fewF_of rfl

theorem check_ok {p : SsaProg} (h : checkB p = true) (hp : fewPB p = true) : Spec Try.prog 8 [.agg (Enc.enc p).toArray] [] (fun ok w => RdD ok w p) fun r L' => r = .int .i64 0 ∧ L' = [] := by
  have := check_spec p (fewP_of hp)
  rw [h] at this
  exact this
theorem check_bad {p : SsaProg} (h : checkB p = false) (hp : fewPB p = true) : Spec Try.prog 8 [.agg (Enc.enc p).toArray] [] (fun ok w => RdD ok w p) fun r L' => r = .int .i64 40 ∧ L' = [] := by
  have := check_spec p (fewP_of hp)
  rw [h] at this
  exact this
def headP7 (b4 b8 b10 : Nat) (v : Int) : SsaProg := (⟨Enc.dflt, ⟨some ⟨b10, 0, none⟩, 1, [(⟨Enc.dflt, ⟨some ⟨b8, 0, none⟩, 1, [(⟨Enc.dflt, ⟨some ⟨b4, 0, none⟩, 1, [(⟨1, 1, Enc.dflt, 5, Enc.dflt, Enc.dflt, Enc.dflt⟩ : SsaIns)]⟩, (⟨3, v, Enc.dflt, Enc.dflt⟩ : SsaEnd)⟩ : SsaBlock)]⟩⟩ : SsaFunc)]⟩, Enc.dflt⟩ : SsaProg)
theorem head1_spec (v : Int) : Spec Try.prog 12 [.int .i64 v] [] (fun _ _ => True) fun r L' => ∃ b4 b8 b10, r = .agg (Enc.enc (headP7 b4 b8 b10 v)).toArray ∧ L' = [own 47 (some ⟨b10, 0, none⟩) 1 1 (headP7 b4 b8 b10 v).fFuncs.xs, own 44 (some ⟨b8, 0, none⟩) 1 1 (nth (headP7 b4 b8 b10 v).fFuncs.xs 0).fBlocks.xs, own 34 (some ⟨b4, 0, none⟩) 1 1 (nth (nth (headP7 b4 b8 b10 v).fFuncs.xs 0).fBlocks.xs 0).fIns.xs] := by
  refine spec_of Try.func12 rfl rfl fun w0 f0 _ => ?_
  (repeat' (first | refine s_nil ?_ | (refine k_C ?_; first | refine s_seq ?_ | refine s_region ?_) | (refine k_E ?_; refine e_seq ?_) | (refine s_alloc ?_; intro b)))
  refine s_bld (⟨1, 1, Enc.dflt, 5, Enc.dflt, Enc.dflt, Enc.dflt⟩ : SsaIns) (by kernel_rfl) ?_
  refine s_lit (α := SsaIns) [(⟨1, 1, Enc.dflt, 5, Enc.dflt, Enc.dflt, Enc.dflt⟩ : SsaIns)] rfl (by decide) (by kernel_rfl) ?_; intro b4
  refine s_move ?_
  refine s_bld (⟨3, v, Enc.dflt, Enc.dflt⟩ : SsaEnd) (by kernel_rfl) ?_
  refine s_bld (⟨Enc.dflt, ⟨some ⟨b4, 0, none⟩, 1, [(⟨1, 1, Enc.dflt, 5, Enc.dflt, Enc.dflt, Enc.dflt⟩ : SsaIns)]⟩, (⟨3, v, Enc.dflt, Enc.dflt⟩ : SsaEnd)⟩ : SsaBlock) (by kernel_rfl) ?_
  refine s_lit (α := SsaBlock) [(⟨Enc.dflt, ⟨some ⟨b4, 0, none⟩, 1, [(⟨1, 1, Enc.dflt, 5, Enc.dflt, Enc.dflt, Enc.dflt⟩ : SsaIns)]⟩, (⟨3, v, Enc.dflt, Enc.dflt⟩ : SsaEnd)⟩ : SsaBlock)] rfl (by decide) (by kernel_rfl) ?_; intro b8
  refine s_bld (⟨Enc.dflt, ⟨some ⟨b8, 0, none⟩, 1, [(⟨Enc.dflt, ⟨some ⟨b4, 0, none⟩, 1, [(⟨1, 1, Enc.dflt, 5, Enc.dflt, Enc.dflt, Enc.dflt⟩ : SsaIns)]⟩, (⟨3, v, Enc.dflt, Enc.dflt⟩ : SsaEnd)⟩ : SsaBlock)]⟩⟩ : SsaFunc) (by kernel_rfl) ?_
  refine s_lit (α := SsaFunc) [(⟨Enc.dflt, ⟨some ⟨b8, 0, none⟩, 1, [(⟨Enc.dflt, ⟨some ⟨b4, 0, none⟩, 1, [(⟨1, 1, Enc.dflt, 5, Enc.dflt, Enc.dflt, Enc.dflt⟩ : SsaIns)]⟩, (⟨3, v, Enc.dflt, Enc.dflt⟩ : SsaEnd)⟩ : SsaBlock)]⟩⟩ : SsaFunc)] rfl (by decide) (by kernel_rfl) ?_; intro b10
  refine s_bld (⟨Enc.dflt, ⟨some ⟨b10, 0, none⟩, 1, [(⟨Enc.dflt, ⟨some ⟨b8, 0, none⟩, 1, [(⟨Enc.dflt, ⟨some ⟨b4, 0, none⟩, 1, [(⟨1, 1, Enc.dflt, 5, Enc.dflt, Enc.dflt, Enc.dflt⟩ : SsaIns)]⟩, (⟨3, v, Enc.dflt, Enc.dflt⟩ : SsaEnd)⟩ : SsaBlock)]⟩⟩ : SsaFunc)]⟩, Enc.dflt⟩ : SsaProg) (by kernel_rfl) ?_
  (repeat' (first | refine s_nil ?_ | (refine k_C ?_; refine s_ret ?_) | (refine k_E ?_; refine e_seq ?_) | (refine k_store ?_; refine s_stW _ rfl rfl ?_)))
  refine e_doneC rfl rfl rfl rfl _ (PSub.take [0, 0, 0] rfl) ⟨_, _, _, rfl, rfl⟩
theorem head7_spec : Spec Try.prog 6 [] [] (fun _ _ => True) fun r L' => r = .bool true ∧ L' = [] := by
  refine spec_of Try.func6 rfl rfl fun w0 f0 _ => ?_
  (repeat' (first | refine s_move ?_ | refine s_assign ?_ | refine s_nil ?_ | (refine k_C ?_; first | refine s_seq ?_ | refine s_region ?_) | (refine k_E ?_; refine e_seq ?_)))
  refine s_callV0 (captured := []) rfl (head1_spec 1) rfl (fun _ _ => trivial) ?_
  rintro r L' ⟨b4, b8, b10, rfl, rfl⟩
  refine s_call [] (check_spec (headP7 b4 b8 b10 1) (fewP_of rfl)) rfl rfl (fun w1 f1 C => ?_) ?_
  · refine ⟨?_⟩
    unfold headP7
    repeat' (first | exact all_nil | refine all_cons ?_ ?_ | exact Dp.dflt _ _ | exact trivial | assumption | (show wfi _; refine And.intro ?_ ?_ <;> first | decide | (dsimp only; omega)) | refine C.lit ?_ | refine And.intro ?_ ?_)
  rintro r L' ⟨rfl, rfl⟩
  have h1 : checkB (headP7 b4 b8 b10 1) = true := by rfl
  rw [h1]
  (repeat' (first | refine s_move ?_ | (refine k_bin ?_; refine s_eql rfl rfl ?_) | (refine k_guard ?_; refine s_on rfl rfl ?_)))
  refine s_callV0 (captured := []) rfl (head1_spec 2) rfl (fun _ _ => trivial) ?_
  rintro r L' ⟨c4, c8, c10, rfl, rfl⟩
  (repeat' (first | (refine k_guard ?_; refine s_on rfl rfl ?_)))
  refine s_call [] (check_spec (headP7 c4 c8 c10 2) (fewP_of rfl)) rfl rfl (fun w1 f1 C => ?_) ?_
  · refine ⟨?_⟩
    unfold headP7
    repeat' (first | exact all_nil | refine all_cons ?_ ?_ | exact Dp.dflt _ _ | exact trivial | assumption | (show wfi _; refine And.intro ?_ ?_ <;> first | decide | (dsimp only; omega)) | refine C.lit ?_ | refine And.intro ?_ ?_)
  rintro r L' ⟨rfl, rfl⟩
  have h1 : checkB (headP7 c4 c8 c10 2) = false := by rfl
  rw [h1]
  (repeat' (first | refine s_assign ?_ | refine s_nil ?_ | (refine k_C ?_; refine s_ret ?_) | (refine k_E ?_; refine e_seq ?_) | (refine k_bin ?_; refine s_eql rfl rfl ?_) | (refine k_guard ?_; refine s_on rfl rfl ?_) | refine s_pick rfl ?_))
  exact e_done rfl rfl _ (PSub.take [] rfl) ⟨rfl, rfl⟩
end Go.Proofs.Ytboicgdblbfbeaa
