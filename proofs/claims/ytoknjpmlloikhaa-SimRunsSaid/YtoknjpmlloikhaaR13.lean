/- Layer 8: head, walked. -/
import Derived.Test.YtoknjpmlloikhaaR12
namespace Go.Proofs.Ytoknjpmlloikhaa
set_option linter.unusedVariables false
set_option linter.unusedSimpArgs false
open Go Go.RowKit

def hI : SsaIns := ⟨1, 1, Enc.dflt, 5, Enc.dflt, Enc.dflt, Enc.dflt⟩
def hE : SsaEnd := ⟨3, 1, Enc.dflt, Enc.dflt⟩
def headBlk (b1 : Nat) : SsaBlock := ⟨Enc.dflt, ⟨some ⟨b1, 0, none⟩, 1, [hI]⟩, hE⟩
def headF (b1 b2 : Nat) : SsaFunc := ⟨Enc.dflt, ⟨some ⟨b2, 0, none⟩, 1, [headBlk b1]⟩⟩
def headP (b1 b2 b3 : Nat) : SsaProg := ⟨Enc.dflt, ⟨some ⟨b3, 0, none⟩, 1, [headF b1 b2]⟩, Enc.dflt⟩
section
variable {b1 b2 b3 : Nat}
theorem head_few : FewPr (headP b1 b2 b3) := by
  refine ⟨Nat.zero_le _, by show 1 ≤ 5; omega, fun m hm => ?_⟩
  have : m = 0 := by have : m < 1 := hm; omega
  subst this
  refine ⟨by show 1 ≤ 30; omega, fun m hm => ?_⟩
  have : m = 0 := by have : m < 1 := hm; omega
  subst this
  refine ⟨Nat.zero_le _, by show 1 ≤ 40; omega, Nat.zero_le _, fun m hm => ?_, fun m hm => absurd hm (Nat.not_lt_zero m)⟩
  have : m = 0 := by have : m < 1 := hm; omega
  subst this
  exact Nat.zero_le _
theorem head_check : checkB (headP b1 b2 b3) = true := by kernel_rfl
theorem head_run : runOf (headP b1 b2 b3) [] 10 = .out ⟨[], 5, 0, [], 2, 1, [], true⟩ := by kernel_rfl
theorem head_rd {w0 w1 : World} {f0 f1 : FP} {L1 L2 L3 : List HP} (C : Ctx w0 f0 L1 L2 w1 f1)
    (hL : L2 = own 63 (some ⟨b3, 0, none⟩) 1 1 [headF b1 b2] :: own 60 (some ⟨b2, 0, none⟩) 1 1 [headBlk b1] :: own 51 (some ⟨b1, 0, none⟩) 1 1 [hI] :: L3) : RdD (okOf w1 f1) w1 (headP b1 b2 b3) := by
  subst hL
  have hins : Dp.rd (okOf w1 f1) w1 (⟨some ⟨b1, 0, none⟩, 1, [hI]⟩ : Sl SsaIns) := C.lit (e := 51) (l := 1) (all_cons ⟨by show wfi 1; unfold wfi; omega, by show wfi 1; unfold wfi; omega, Dp.dflt _ _, by show wfi 5; unfold wfi; omega, Dp.dflt _ _, Dp.dflt _ _, Dp.dflt _ _⟩ all_nil)
  have hb : Dp.rd (okOf w1 f1) w1 (⟨some ⟨b2, 0, none⟩, 1, [headBlk b1]⟩ : Sl SsaBlock) := C.lit (e := 60) (l := 1) fun x hx => by
    rw [List.mem_singleton] at hx
    subst hx
    exact ⟨Dp.dflt _ _, hins, by show wfi 3; unfold wfi; omega, by show wfi 1; unfold wfi; omega, Dp.dflt _ _, Dp.dflt _ _⟩
  have hf : Dp.rd (okOf w1 f1) w1 (⟨some ⟨b3, 0, none⟩, 1, [headF b1 b2]⟩ : Sl SsaFunc) := C.lit (e := 63) (l := 1) fun x hx => by
    rw [List.mem_singleton] at hx
    subst hx
    exact ⟨trivial, hb⟩
  exact ⟨⟨Dp.dflt _ _, hf, Dp.dflt _ _⟩⟩
end
set_option maxHeartbeats 8000000 in
theorem head08_spec : Spec Try.prog 7 [] [] (fun _ _ => True) fun r L' => r = .bool true ∧ L' = [] := by
  refine spec_of Try.func7 rfl rfl fun w0 f0 _ => ?_
  (repeat' (first | refine s_assign ?_ | refine s_nil ?_ | (refine k_C ?_; first | refine s_seq ?_ | refine s_region ?_) | (refine k_E ?_; refine e_seq ?_)))
  refine s_bld hI (by kernel_rfl) ?_
  refine s_lit (α := SsaIns) [hI] rfl (by decide) (by kernel_rfl) ?_; intro b1
  refine s_bld hE (by kernel_rfl) ?_
  refine s_bld (headBlk b1) (by kernel_rfl) ?_
  refine s_lit (α := SsaBlock) [headBlk b1] rfl (by decide) (by kernel_rfl) ?_; intro b2
  refine s_bld (headF b1 b2) (by kernel_rfl) ?_
  refine s_lit (α := SsaFunc) [headF b1 b2] rfl (by decide) (by kernel_rfl) ?_; intro b3
  refine s_bld (headP b1 b2 b3) (by kernel_rfl) ?_
  (repeat' (first | refine s_nil ?_ | (refine k_C ?_; first | refine s_seq ?_ | refine s_region ?_) | (refine k_E ?_; refine e_seq ?_) | (refine k_load ?_; refine s_ldBW rfl rfl ?_) | (refine k_store ?_; refine s_stW _ rfl rfl ?_) | (refine s_alloc ?_; intro b)))
  obtain ⟨bp, rfl⟩ : ∃ q, q = b := ⟨_, rfl⟩
  refine so_sub (L' := [own 63 (some ⟨b3, 0, none⟩) 1 1 [headF b1 b2], own 60 (some ⟨b2, 0, none⟩) 1 1 [headBlk b1], own 51 (some ⟨b1, 0, none⟩) 1 1 [hI], var 25 bp (headP b1 b2 b3)]) (PSub.take [1, 1, 1, 0] rfl) ?_
  refine s_call [] (run_spec (headP b1 b2 b3) head_few ⟨none, 0, []⟩ (Nat.zero_le _) 10 (by decide)) rfl rfl (fun w1 f1 C => ⟨head_rd C rfl, ⟨Dp.dflt _ _⟩⟩) ?_
  rintro r L' (⟨h1, _⟩ | ⟨_, h1, _⟩ | ⟨_, m, h1, _, Al, cl, Am, cm, ss, hss, rfl, rfl⟩)
  · rw [head_check] at h1; cases h1
  · rw [head_run] at h1; cases h1
  rw [head_run] at h1
  cases h1
  (repeat' (first | refine s_move ?_ | refine s_assign ?_ | refine s_nil ?_ | (refine k_C ?_; first | refine s_seq ?_ | refine s_region ?_ | refine s_ret ?_) | (refine k_E ?_; refine e_seq ?_) | (refine k_load ?_; refine s_ldB rfl rfl ?_) | (refine k_bin ?_; refine s_eql rfl rfl ?_) | (refine k_fld ?_; refine s_fldB rfl ?_) | (refine k_store ?_; refine s_stW _ rfl rfl ?_) | (refine k_call ?_; refine s_len rfl ?_) | (refine k_guard ?_; refine s_on rfl rfl ?_) | (refine s_alloc ?_; intro b) | refine s_pick rfl ?_ | refine s_extract rfl rfl ?_))
  exact e_done rfl rfl [] (PSub.take [] rfl) ⟨rfl, rfl⟩
end Go.Proofs.Ytoknjpmlloikhaa
