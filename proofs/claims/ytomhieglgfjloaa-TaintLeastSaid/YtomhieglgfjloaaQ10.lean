/- Layer 12: head, walked. -/
import Derived.Test.YtomhieglgfjloaaQ9
namespace Go.Proofs.Ytomhieglgfjloaa
set_option linter.unusedVariables false
set_option linter.unusedSimpArgs false
open Go Go.RowKit

def hA : SsaArray := ⟨⟨⟨#[115]⟩⟩, 2, Enc.dflt⟩
def hI1 : SsaIns := ⟨3, 1, Enc.dflt, Enc.dflt, Enc.dflt, Enc.dflt, Enc.dflt⟩
def hI2 (b7 : Nat) : SsaIns := ⟨2, 2, ⟨some ⟨b7, 0, none⟩, 2, [1, 1]⟩, Enc.dflt, 1, Enc.dflt, Enc.dflt⟩
def headBlk (b7 b9 : Nat) : SsaBlock := ⟨Enc.dflt, ⟨some ⟨b9, 0, none⟩, 2, [hI1, hI2 b7]⟩, ⟨3, 2, Enc.dflt, Enc.dflt⟩⟩
def headF (b7 b9 b12 : Nat) : SsaFunc := ⟨Enc.dflt, ⟨some ⟨b12, 0, none⟩, 1, [headBlk b7 b9]⟩⟩
def headP (b5 b7 b9 b12 b14 : Nat) : SsaProg := ⟨⟨some ⟨b5, 0, none⟩, 1, [hA]⟩, ⟨some ⟨b14, 0, none⟩, 1, [headF b7 b9 b12]⟩, Enc.dflt⟩
section
variable {b5 b7 b9 b12 b14 : Nat}
theorem head_few : FewPr (headP b5 b7 b9 b12 b14) := by
  refine ⟨by show 1 ≤ 10; omega, by show 1 ≤ 5; omega, fun m hm => ?_⟩
  have : m = 0 := by have : m < 1 := hm; omega
  subst this
  refine ⟨by show 1 ≤ 30; omega, fun m hm => ?_⟩
  have : m = 0 := by have : m < 1 := hm; omega
  subst this
  refine ⟨Nat.zero_le _, by show 2 ≤ 40; omega, Nat.zero_le _, fun m hm => ?_, fun m hm => absurd hm (Nat.not_lt_zero m)⟩
  have hm : m < 2 := hm
  have : m = 0 ∨ m = 1 := by omega
  rcases this with rfl | rfl
  · exact Nat.zero_le _
  · show 2 ≤ 20; omega
theorem head_check : checkB (headP b5 b7 b9 b12 b14) = true := by kernel_rfl
theorem head_rq {C : Nat → Int → Bool} : rqP (headP b5 b7 b9 b12 b14) C (writesL (headP b5 b7 b9 b12 b14)) 1 = [rqV C 0 1 (fun L => max (max (L (1, 0, 0)) (ofE 0 [] L)) (mayL (writesL (headP b5 b7 b9 b12 b14)) hI1)), rqV C 0 2 (ofE 0 [1, 1]), ⟨(2, 0, 0), fun L => stays (L (0, 0, 2))⟩] := by kernel_rfl
theorem head_lab {s : LSt} (h : Labd (headP b5 b7 b9 b12 b14) (fun _ _ => false) s) (hr : ∀ g, 0 ≤ labL s g ∧ labL s g ≤ 2) : labL s (0, 0, 1) = 2 ∧ labL s (0, 0, 2) = 2 ∧ labL s (2, 0, 0) = 2 := by
  have hc := h.closed
  rw [show (headP b5 b7 b9 b12 b14).fFuncs.xs.length = 1 from rfl, head_rq] at hc
  have h0 : (2 : Int) ≤ labL s (1, 0, 0) := h.base (1, 0, 0)
  have h1 : max (max (labL s (1, 0, 0)) (ofE 0 [] (labL s))) (mayL (writesL (headP b5 b7 b9 b12 b14)) hI1) ≤ labL s (0, 0, 1) := hc _ (List.mem_cons_self)
  have h2 : max (max 0 (labL s (0, 0, 1))) (labL s (0, 0, 1)) ≤ labL s (0, 0, 2) := hc _ (List.mem_cons_of_mem _ List.mem_cons_self)
  have h3 : stays (labL s (0, 0, 2)) ≤ labL s (2, 0, 0) := hc _ (List.mem_cons_of_mem _ (List.mem_cons_of_mem _ List.mem_cons_self))
  have r1 := hr (0, 0, 1)
  have r2 := hr (0, 0, 2)
  have r3 := hr (2, 0, 0)
  have e2 : labL s (0, 0, 2) = 2 := by omega
  rw [e2] at h3
  have h3 : (2 : Int) ≤ labL s (2, 0, 0) := h3
  exact ⟨by omega, e2, by omega⟩
theorem head_rd {w0 w1 : World} {f0 f1 : FP} {L1 L2 L3 : List HP} (C : Ctx w0 f0 L1 L2 w1 f1)
    (hL : L2 = own 46 (some ⟨b14, 0, none⟩) 1 1 [headF b7 b9 b12] :: own 55 (some ⟨b12, 0, none⟩) 1 1 [headBlk b7 b9] :: own 60 (some ⟨b9, 0, none⟩) 2 2 [hI1, hI2 b7] :: own 3 (some ⟨b7, 0, none⟩) 2 2 [(1 : Int), 1] :: own 66 (some ⟨b5, 0, none⟩) 1 1 [hA] :: L3) : RdD (okOf w1 f1) w1 (headP b5 b7 b9 b12 b14) := by
  subst hL
  have hargs : Dp.rd (okOf w1 f1) w1 (⟨some ⟨b7, 0, none⟩, 2, [1, 1]⟩ : Sl Int) := C.lit (e := 3) (l := 2) fun x hx => by
    simp only [List.mem_cons, List.not_mem_nil, or_false] at hx
    show wfi x
    unfold wfi
    omega
  have harr : Dp.rd (okOf w1 f1) w1 (⟨some ⟨b5, 0, none⟩, 1, [hA]⟩ : Sl SsaArray) := C.lit (e := 66) (l := 1) (all_cons ⟨trivial, by show wfi 2; unfold wfi; omega, Dp.dflt _ _⟩ all_nil)
  have hins : Dp.rd (okOf w1 f1) w1 (⟨some ⟨b9, 0, none⟩, 2, [hI1, hI2 b7]⟩ : Sl SsaIns) := C.lit (e := 60) (l := 2) (all_cons ⟨by show wfi 3; unfold wfi; omega, by show wfi 1; unfold wfi; omega, Dp.dflt _ _, Dp.dflt _ _, Dp.dflt _ _, Dp.dflt _ _, Dp.dflt _ _⟩
    (all_cons ⟨by show wfi 2; unfold wfi; omega, by show wfi 2; unfold wfi; omega, hargs, Dp.dflt _ _, by show wfi 1; unfold wfi; omega, Dp.dflt _ _, Dp.dflt _ _⟩ all_nil))
  have hb : Dp.rd (okOf w1 f1) w1 (⟨some ⟨b12, 0, none⟩, 1, [headBlk b7 b9]⟩ : Sl SsaBlock) := C.lit (e := 55) (l := 1) fun x hx => by
    rw [List.mem_singleton] at hx
    subst hx
    exact ⟨Dp.dflt _ _, hins, by show wfi 3; unfold wfi; omega, by show wfi 2; unfold wfi; omega, Dp.dflt _ _, Dp.dflt _ _⟩
  have hf : Dp.rd (okOf w1 f1) w1 (⟨some ⟨b14, 0, none⟩, 1, [headF b7 b9 b12]⟩ : Sl SsaFunc) := C.lit (e := 46) (l := 1) fun x hx => by
    rw [List.mem_singleton] at hx
    subst hx
    exact ⟨trivial, hb⟩
  exact ⟨⟨harr, hf, Dp.dflt _ _⟩⟩
end
theorem noCut : CutOk (⟨none, 0, []⟩ : Sl Mr) (fun _ _ => none) (fun _ => []) := ⟨Nat.zero_le _, fun j hj => absurd hj (Nat.not_lt_zero j), fun _ => Nat.zero_le _, fun _ _ => rfl⟩
theorem noCut_rd {ok : FP} {w : World} : RdCut (⟨none, 0, []⟩ : Sl Mr) (fun _ => 0) (fun _ _ => none) ok w := ⟨⟨Dp.dflt _ _⟩, fun j hj => absurd hj (Nat.not_lt_zero j)⟩
set_option maxHeartbeats 8000000 in
theorem head12_spec : Spec Try.prog 7 [] [] (fun _ _ => True) fun r L' => r = .bool true ∧ L' = [] := by
  refine spec_of Try.func7 rfl rfl fun w0 f0 _ => ?_
  (repeat' (first | refine s_assign ?_ | refine s_nil ?_ | (refine k_C ?_; first | refine s_seq ?_ | refine s_region ?_) | (refine k_E ?_; refine e_seq ?_)))
  refine s_bld hA (by kernel_rfl) ?_
  refine s_lit (α := SsaArray) [hA] rfl (by decide) (by kernel_rfl) ?_; intro b5
  refine s_bld hI1 (by kernel_rfl) ?_
  refine s_lit (α := Int) [1, 1] rfl (by decide) (by kernel_rfl) ?_; intro b7
  refine s_bld (hI2 b7) (by kernel_rfl) ?_
  refine s_lit (α := SsaIns) [hI1, hI2 b7] rfl (by decide) (by kernel_rfl) ?_; intro b9
  refine s_bld (⟨3, 2, Enc.dflt, Enc.dflt⟩ : SsaEnd) (by kernel_rfl) ?_
  refine s_bld (headBlk b7 b9) (by kernel_rfl) ?_
  refine s_lit (α := SsaBlock) [headBlk b7 b9] rfl (by decide) (by kernel_rfl) ?_; intro b12
  refine s_bld (headF b7 b9 b12) (by kernel_rfl) ?_
  refine s_lit (α := SsaFunc) [headF b7 b9 b12] rfl (by decide) (by kernel_rfl) ?_; intro b14
  refine s_bld (headP b5 b7 b9 b12 b14) (by kernel_rfl) ?_
  (repeat' (first | refine s_nil ?_ | (refine k_C ?_; first | refine s_seq ?_ | refine s_region ?_) | (refine k_E ?_; refine e_seq ?_) | (refine k_load ?_; refine s_ldBW rfl rfl ?_) | (refine k_store ?_; refine s_stW _ rfl rfl ?_) | (refine s_alloc ?_; intro b)))
  obtain ⟨b1, rfl⟩ : ∃ q, q = b := ⟨_, rfl⟩
  refine so_sub (L' := [own 46 (some ⟨b14, 0, none⟩) 1 1 [headF b7 b9 b12], own 55 (some ⟨b12, 0, none⟩) 1 1 [headBlk b7 b9], own 60 (some ⟨b9, 0, none⟩) 2 2 [hI1, hI2 b7], own 3 (some ⟨b7, 0, none⟩) 2 2 [(1 : Int), 1], own 66 (some ⟨b5, 0, none⟩) 1 1 [hA], var 25 b1 (headP b5 b7 b9 b12 b14)]) (PSub.take [1, 1, 1, 1, 1, 0] rfl) ?_
  refine s_call [] (taintOf_spec (headP b5 b7 b9 b12 b14) head_few ⟨none, 0, []⟩ (fun _ => 0) (fun _ _ => none) (fun _ => []) noCut) rfl rfl (fun w1 f1 C => ⟨head_rd C rfl, noCut_rd⟩) ?_
  rintro r L' (⟨h1, _⟩ | ⟨_, l, mv, mc, s, rfl, hL, hr, ha, hrt, hvl, hvb, hcl, rfl⟩)
  · rw [head_check] at h1; cases h1
  obtain ⟨e1, e2, e3⟩ := head_lab hL hr
  have hn1 : (headP b5 b7 b9 b12 b14).fFuncs.xs.length = 1 := rfl
  rw [hn1] at hvl hcl
  have hv0 := hvb 0 (by rw [hn1]; omega)
  have hal : l.fArrays.xs.length = 1 := by rw [ha, hL.al]; rfl
  have hrl : l.fRets.xs.length = 1 := by rw [hrt, hL.rl]; rfl
  have e1 : (s.V 0 1).getD 0 = 2 := e1
  have e2 : (s.V 0 2).getD 0 = 2 := e2
  have e3 : nth l.fRets.xs 0 = 2 := by rw [hrt]; exact e3
  have e4 : nth l.fRets.xs (Int.toNat 0) = 2 := e3
  refine so_sub (L' := [mp EL 3 (mv 0) (madeAll (nth (headP b5 b7 b9 b12 b14).fFuncs.xs 0).fBlocks.xs).length (s.V 0), own 56 l.fVals.A l.fVals.xs.length l.fVals.c l.fVals.xs, own 42 l.fArrays.A l.fArrays.xs.length l.fArrays.c l.fArrays.xs, own 42 l.fRets.A l.fRets.xs.length l.fRets.c l.fRets.xs])
    ((PSub.take [4, 0, 0, 0] rfl).trans ((PSub.bagGout (by rw [hn1]; omega)).trans (PSub.take [0, 1, 1, 1] rfl))) ?_
  (repeat' (first | refine s_move ?_ | refine s_assign ?_ | refine s_nil ?_ | (refine k_C ?_; first | refine s_seq ?_ | refine s_region ?_) | (refine k_E ?_; refine e_seq ?_) | (refine k_load ?_; first | refine s_ldB rfl rfl ?_ | refine s_ld rfl om rfl ?_) | (refine k_bin ?_; refine s_eql rfl rfl ?_) | (refine k_fld ?_; refine s_fldB rfl ?_) | (refine k_idx ?_; refine s_idx rfl rfl om ?_) | (refine k_store ?_; refine s_stW _ rfl rfl ?_) | (refine k_call ?_; refine s_len rfl ?_) | (refine k_guard ?_; first | refine s_on rfl rfl ?_ | (refine s_casesd rfl rfl ?_ ?_ <;> intro hc <;> try (exfalso; omega))) | (refine s_alloc ?_; intro b) | refine s_pick rfl ?_ | refine s_extract rfl rfl ?_))
  rw [hv0]
  refine s_look rfl rfl (by unfold wfi; omega) ?_
  rw [el_z, e1]
  (repeat' (first | refine s_move ?_ | (refine k_load ?_; first | refine s_ldB rfl rfl ?_ | refine s_ld rfl om rfl ?_) | (refine k_bin ?_; refine s_eql rfl rfl ?_) | (refine k_fld ?_; refine s_fldB rfl ?_) | (refine k_idx ?_; refine s_idx rfl rfl om ?_) | (refine k_guard ?_; refine s_on rfl rfl ?_) | refine s_pick rfl ?_))
  rw [hv0]
  refine s_look rfl rfl (by unfold wfi; omega) ?_
  rw [el_z, e2]
  (repeat' (first | refine s_move ?_ | refine s_assign ?_ | refine s_nil ?_ | (refine k_C ?_; refine s_ret ?_) | (refine k_E ?_; refine e_seq ?_) | (refine k_load ?_; first | refine s_ldB rfl rfl ?_ | refine s_ld rfl om rfl ?_) | (refine k_bin ?_; refine s_eql rfl rfl ?_) | (refine k_fld ?_; refine s_fldB rfl ?_) | (refine k_idx ?_; refine s_idx rfl rfl om ?_) | (refine k_call ?_; refine s_len rfl ?_) | (refine k_guard ?_; first | refine s_on rfl rfl ?_ | refine s_off rfl rfl rfl rfl ?_ | (refine s_casesd rfl rfl ?_ ?_ <;> intro hc <;> try (exfalso; omega))) | refine s_pick rfl ?_))
  all_goals first
    | exact e_done rfl rfl [] (PSub.take [] rfl) ⟨congrArg Value.bool (decide_eq_true (by omega)), rfl⟩
    | (exfalso; omega)
    | exact absurd e3 (by assumption)
    | (trace_state; fail)
end Go.Proofs.Ytomhieglgfjloaa
