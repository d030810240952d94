/- Layer 1: what an op makes of two words, walked. -/
import Derived.Test.YtoknjpmlloikhaaA10
import Derived.Test.YtoknjpmlloikhaaInst
namespace Go.Proofs.Ytoknjpmlloikhaa
set_option linter.unusedVariables false
set_option linter.unusedSimpArgs false
open Go Go.RowKit

section
variable {P : Program} {n : Nat} {w0 w : World} {f0 : FP} {ops : Array Oper} {m : Bool} {rest : List Oper} {QC : Exit → Fr → World → Prop} {f : Fr} {L : List HP} {x y : Operand} {d : Tmp} {ty t yt : TypeId} {pos : String} {after : Array Edge}
theorem s_orG {k : IntKind} {a b : Int} (hx : ev f x = .int k a) (hy : ev f y = .int k b) (h : sO P n w0 f0 ops m rest QC (up f d (.int k (k.wrap (BitVec.ofInt k.bits a ||| BitVec.ofInt k.bits b).toNat))) L) (hd : Nat.blt d n = true := by rfl) : sO P n w0 f0 ops m (⟨some d, .binOp .or t x y yt, ty, pos, after, none⟩ :: rest) QC f L :=
  fun w H => o_bin hx hy (by simp [binOp, Op.intBits]) (h w H) hd
theorem s_xorG {k : IntKind} {a b : Int} (hx : ev f x = .int k a) (hy : ev f y = .int k b) (h : sO P n w0 f0 ops m rest QC (up f d (.int k (k.wrap (BitVec.ofInt k.bits a ^^^ BitVec.ofInt k.bits b).toNat))) L) (hd : Nat.blt d n = true := by rfl) : sO P n w0 f0 ops m (⟨some d, .binOp .xor t x y yt, ty, pos, after, none⟩ :: rest) QC f L :=
  fun w H => o_bin hx hy (by simp [binOp, Op.intBits]) (h w H) hd
theorem and63 (b : Int) : ∃ r : Nat, r ≤ 63 ∧ IntKind.u64.wrap (BitVec.ofInt IntKind.u64.bits b &&& BitVec.ofInt IntKind.u64.bits 63).toNat = (r : Int) := by
  refine ⟨(BitVec.ofInt IntKind.u64.bits b &&& BitVec.ofInt IntKind.u64.bits 63).toNat, ?_, ?_⟩
  · rw [BitVec.toNat_and]
    exact Nat.le_trans Nat.and_le_right (by decide)
  · have : (BitVec.ofInt IntKind.u64.bits b &&& BitVec.ofInt IntKind.u64.bits 63).toNat ≤ 63 := by
      rw [BitVec.toNat_and]
      exact Nat.le_trans Nat.and_le_right (by decide)
    exact u64_in _ (by omega) (by omega)
theorem and63' (b : Int) : IntKind.u64.wrap (BitVec.ofInt IntKind.u64.bits b &&& BitVec.ofInt IntKind.u64.bits 63).toNat = ((BitVec.ofInt IntKind.u64.bits b &&& BitVec.ofInt IntKind.u64.bits 63).toNat : Int) := by
  have : (BitVec.ofInt IntKind.u64.bits b &&& BitVec.ofInt IntKind.u64.bits 63).toNat ≤ 63 := by
    rw [BitVec.toNat_and]
    exact Nat.le_trans Nat.and_le_right (by decide)
  exact u64_in _ (by omega) (by omega)
theorem s_shlG {a : Int} {k : Nat} (hx : ev f x = .int .i64 a) (hy : ev f y = .int .u64 (k : Int)) (hk : k ≤ 63) (h : sO P n w0 f0 ops m rest QC (up f d (.int .i64 (IntKind.i64.wrap (a * 2 ^ k)))) L) (hd : Nat.blt d n = true := by rfl) : sO P n w0 f0 ops m (⟨some d, .binOp .shl t x y yt, ty, pos, after, none⟩ :: rest) QC f L := by
  intro w H
  refine o_pure (v := .int .i64 (IntKind.i64.wrap (a * 2 ^ k))) rfl hd ?_ (h w H)
  show (Sem.run P (do pure (Next.value (← (do eqGuard .shl t x y (ev f x) (ev f y); binOp .shl t (ev f x) (ev f y))))) w) = _
  rw [hx, hy]
  have h1 : ¬ ((k : Int) < 0) := by omega
  have h2 : min k 64 = k := by omega
  simp [eqGuard, binOp, Op.shift, h1, IntKind.bits, h2, Result.andThen]
theorem s_shrG {a : Int} {k : Nat} (hx : ev f x = .int .i64 a) (hy : ev f y = .int .u64 (k : Int)) (hk : k ≤ 63) (h : sO P n w0 f0 ops m rest QC (up f d (.int .i64 (a / 2 ^ k))) L) (hd : Nat.blt d n = true := by rfl) : sO P n w0 f0 ops m (⟨some d, .binOp .shr t x y yt, ty, pos, after, none⟩ :: rest) QC f L := by
  intro w H
  refine o_pure (v := .int .i64 (a / 2 ^ k)) rfl hd ?_ (h w H)
  show (Sem.run P (do pure (Next.value (← (do eqGuard .shr t x y (ev f x) (ev f y); binOp .shr t (ev f x) (ev f y))))) w) = _
  rw [hx, hy]
  have h1 : ¬ ((k : Int) < 0) := by omega
  have h2 : min k 64 = k := by omega
  simp [eqGuard, binOp, Op.shift, h1, IntKind.bits, h2, Result.andThen]
theorem s_mulW {k : IntKind} {a b : Int} (hx : ev f x = .int k a) (hy : ev f y = .int k b) (h : sO P n w0 f0 ops m rest QC (up f d (.int k (k.wrap (a * b)))) L) (hd : Nat.blt d n = true := by rfl) : sO P n w0 f0 ops m (⟨some d, .binOp .mul t x y yt, ty, pos, after, none⟩ :: rest) QC f L := fun w H => o_mul hx hy (h w H) hd
theorem s_negG {a : Int} (hx : ev f x = .int .i64 a) (h : sO P n w0 f0 ops m rest QC (up f d (.int .i64 (IntKind.i64.wrap (-a)))) L) (hd : Nat.blt d n = true := by rfl) : sO P n w0 f0 ops m (⟨some d, .unOp .neg t x, ty, pos, after, none⟩ :: rest) QC f L := by
  intro w H
  refine o_pure (v := .int .i64 (IntKind.i64.wrap (-a))) rfl hd ?_ (h w H)
  simp [execOp, Op.unary, Op.intArith, hx, Result.andThen]
end
/-- What divides. -/
def divW (o a b : Int) : Int × Bool := if b = 0 then (0, false) else if b = -1 ∧ o = 4 then (IntKind.i64.wrap (-a), true) else if b = -1 then (0, true) else if o = 4 then (IntKind.i64.wrap (a.tdiv b), true) else (a.tmod b, true)
def boolW (b : Bool) : Int := if b = true then 1 else 0
def shW (b : Int) : Nat := (BitVec.ofInt IntKind.u64.bits (IntKind.u64.wrap b) &&& BitVec.ofInt IntKind.u64.bits 63).toNat
/-- What an op makes of two words. -/
def doW (o a b : Int) : Int × Bool :=
  if o = 1 then (IntKind.i64.wrap (a + b), true)
  else if o = 2 then (IntKind.i64.wrap (a - b), true)
  else if o = 3 then (IntKind.i64.wrap (a * b), true)
  else if o = 4 ∨ o = 5 then divW o a b
  else if o = 6 then (IntKind.i64.wrap (BitVec.ofInt IntKind.i64.bits a &&& BitVec.ofInt IntKind.i64.bits b).toNat, true)
  else if o = 7 then (IntKind.i64.wrap (BitVec.ofInt IntKind.i64.bits a ||| BitVec.ofInt IntKind.i64.bits b).toNat, true)
  else if o = 8 then (IntKind.i64.wrap (BitVec.ofInt IntKind.i64.bits a ^^^ BitVec.ofInt IntKind.i64.bits b).toNat, true)
  else if o = 9 then (IntKind.i64.wrap (a * 2 ^ shW b), true)
  else if o = 10 then (a / 2 ^ shW b, true)
  else if o = 11 then (boolW (decide (a = b)), true)
  else if o = 12 then (boolW (!decide (a = b)), true)
  else if o = 13 then (boolW (decide (a < b)), true)
  else if o = 14 then (boolW (decide (a ≤ b)), true)
  else if o = 15 then (boolW (decide (IntKind.u64.wrap a < IntKind.u64.wrap b)), true)
  else (0, false)
theorem bool_spec (b : Bool) : Spec Try.prog 27 [.bool b] [] (fun _ _ => True) fun r L' => r = .int .i64 (boolW b) ∧ L' = [] := by
  refine spec_of Try.func27 rfl rfl fun w0 f0 _ => ?_
  cases b
  · (repeat' (first | refine s_move ?_ | refine s_assign ?_ | refine s_nil ?_ | (refine k_C ?_; first | refine s_seq ?_ | refine s_region ?_ | refine s_skip ?_ | refine s_ret ?_ | refine s_iff rfl ?_) | (refine k_E ?_; refine e_seq ?_)))
    exact e_done rfl rfl [] (PSub.take [] rfl) ⟨rfl, rfl⟩
  · (repeat' (first | refine s_move ?_ | refine s_assign ?_ | refine s_nil ?_ | (refine k_C ?_; first | refine s_seq ?_ | refine s_region ?_ | refine s_ret ?_ | refine s_ift rfl ?_) | (refine k_E ?_; first | refine e_seq ?_ | refine e_seq_ret ?_)))
    exact e_done rfl rfl [] (PSub.take [] rfl) ⟨rfl, rfl⟩
theorem divide_spec (o a b : Int) : Spec Try.prog 40 [.int .i64 o, .int .i64 a, .int .i64 b] [] (fun _ _ => True) fun r L' => r = .tuple #[.int .i64 (divW o a b).1, .bool (divW o a b).2] ∧ L' = [] := by
  refine spec_of Try.func40 rfl rfl fun w0 f0 _ => ?_
  unfold divW
  by_cases h0 : b = 0
  · rw [if_pos h0]
    (repeat' (first | refine s_move ?_ | refine s_assign ?_ | refine s_nil ?_ | (refine k_C ?_; first | refine s_seq ?_ | refine s_region ?_ | refine s_block ?_ | refine s_ret ?_ | (refine s_ifd rfl ?_ ?_ <;> intro hc <;> try (exfalso; omega))) | (refine k_E ?_; first | refine e_seq ?_ | refine e_seq_ret ?_ | refine e_bk_ret ?_) | (refine k_bin ?_; refine s_eql rfl rfl ?_)))
    exact e_done2 rfl rfl rfl [] (PSub.take [] rfl) ⟨rfl, rfl⟩
  rw [if_neg h0]
  by_cases h1 : b = -1 ∧ o = 4
  · rw [if_pos h1]
    obtain ⟨h1, h2⟩ := h1
    (repeat' (first | refine s_move ?_ | refine s_assign ?_ | refine s_nil ?_ | (refine k_C ?_; first | refine s_seq ?_ | refine s_region ?_ | refine s_block ?_ | (refine s_ifd rfl ?_ ?_ <;> intro hc <;> try (exfalso; omega))) | (refine k_E ?_; refine e_seq ?_) | (refine k_bin ?_; refine s_eql rfl rfl ?_) | (refine k_guard ?_; first | refine s_on rfl rfl ?_ | (refine s_casesd rfl rfl ?_ ?_ <;> intro hc <;> try (exfalso; omega))) | refine s_pick rfl ?_))
    refine s_negG rfl ?_
    (repeat' (first | refine s_assign ?_ | refine s_nil ?_ | (refine k_C ?_; refine s_ret ?_) | (refine k_E ?_; first | refine e_seq ?_ | refine e_seq_ret ?_ | refine e_bk_ret ?_)))
    exact e_done2 rfl rfl rfl [] (PSub.take [] rfl) ⟨rfl, rfl⟩
  rw [if_neg h1]
  by_cases h2 : b = -1
  · rw [if_pos h2]
    (repeat' (first | refine s_move ?_ | refine s_assign ?_ | refine s_nil ?_ | (refine k_C ?_; first | refine s_seq ?_ | refine s_region ?_ | refine s_block ?_ | refine s_ret ?_ | (refine s_ifd rfl ?_ ?_ <;> intro hc <;> try (exfalso; omega))) | (refine k_E ?_; first | refine e_seq ?_ | refine e_seq_ret ?_ | refine e_bk_ret ?_) | (refine k_bin ?_; refine s_eql rfl rfl ?_) | (refine k_guard ?_; first | refine s_on rfl rfl ?_ | (refine s_casesd rfl rfl ?_ ?_ <;> intro hc <;> try (exfalso; omega))) | refine s_pick rfl ?_))
    all_goals exact e_done2 rfl rfl rfl [] (PSub.take [] rfl) ⟨rfl, rfl⟩
  rw [if_neg h2]
  by_cases h3 : o = 4
  · rw [if_pos h3]
    (repeat' (first | refine s_move ?_ | refine s_assign ?_ | refine s_nil ?_ | (refine k_C ?_; first | refine s_seq ?_ | refine s_region ?_ | refine s_block ?_ | refine s_iff rfl ?_ | (refine s_ifd rfl ?_ ?_ <;> intro hc <;> try (exfalso; omega))) | (refine k_E ?_; refine e_seq ?_) | (refine k_bin ?_; refine s_eql rfl rfl ?_) | (refine k_guard ?_; first | refine s_off rfl rfl rfl rfl ?_ | (refine s_casesd rfl rfl ?_ ?_ <;> intro hc <;> try (exfalso; omega))) | refine s_pick rfl ?_))
    refine s_quo rfl rfl h0 ?_
    (repeat' (first | refine s_assign ?_ | refine s_nil ?_ | (refine k_C ?_; refine s_ret ?_) | (refine k_E ?_; first | refine e_seq ?_ | refine e_seq_ret ?_ | refine e_bk_ret ?_)))
    exact e_done2 rfl rfl rfl [] (PSub.take [] rfl) ⟨rfl, rfl⟩
  · rw [if_neg h3]
    (repeat' (first | refine s_move ?_ | refine s_assign ?_ | refine s_nil ?_ | (refine k_C ?_; first | refine s_seq ?_ | refine s_region ?_ | refine s_skip ?_ | refine s_block ?_ | refine s_ret ?_ | refine s_iff rfl ?_ | (refine s_ifd rfl ?_ ?_ <;> intro hc <;> try (exfalso; omega))) | (refine k_E ?_; first | refine e_seq ?_ | refine e_bk ?_) | (refine k_bin ?_; first | refine s_eql rfl rfl ?_ | refine s_rem rfl rfl om ?_) | (refine k_guard ?_; first | refine s_off rfl rfl rfl rfl ?_ | (refine s_casesd rfl rfl ?_ ?_ <;> intro hc <;> try (exfalso; omega))) | refine s_pick rfl ?_))
    exact e_done2 rfl rfl rfl [] (PSub.take [] rfl) ⟨rfl, rfl⟩
set_option maxHeartbeats 4000000 in
theorem do_spec (o a b : Int) : Spec Try.prog 26 [.int .i64 o, .int .i64 a, .int .i64 b] [] (fun _ _ => True) fun r L' => r = .tuple #[.int .i64 (doW o a b).1, .bool (doW o a b).2] ∧ L' = [] := by
  refine spec_of Try.func26 rfl rfl fun w0 f0 _ => ?_
  obtain ⟨k, hk, hk2⟩ := and63 (IntKind.u64.wrap b)
  (repeat' (first | refine s_move ?_ | refine s_assign ?_ | refine s_nil ?_ | (refine k_C ?_; first | refine s_seq ?_ | refine s_region ?_ | refine s_skip ?_ | refine s_block ?_ | refine s_ret ?_ | (refine s_ifd rfl ?_ ?_ <;> intro hc <;> try (exfalso; omega))) | (refine k_E ?_; first | refine e_seq ?_ | refine e_bk ?_) | (refine k_bin ?_; first | refine s_lss rfl rfl ?_ | refine s_eql rfl rfl ?_ | refine s_neq rfl rfl ?_ | refine s_leq rfl rfl ?_)))
  · have ho : o = 1 := by assumption
    subst ho
    refine s_add rfl rfl ?_
    (repeat' (first | refine s_assign ?_ | refine s_nil ?_ | (refine k_C ?_; refine s_ret ?_) | (refine k_E ?_; first | refine e_seq ?_ | refine e_seq_ret ?_ | refine e_bk_ret ?_)))
    exact e_done2 rfl rfl rfl [] (PSub.take [] rfl) ⟨rfl, rfl⟩
  · have ho : o = 2 := by assumption
    subst ho
    refine s_subW rfl rfl ?_
    (repeat' (first | refine s_assign ?_ | refine s_nil ?_ | (refine k_C ?_; refine s_ret ?_) | (refine k_E ?_; first | refine e_seq ?_ | refine e_seq_ret ?_ | refine e_bk_ret ?_)))
    exact e_done2 rfl rfl rfl [] (PSub.take [] rfl) ⟨rfl, rfl⟩
  · have ho : o = 3 := by assumption
    subst ho
    refine s_mulW rfl rfl ?_
    (repeat' (first | refine s_assign ?_ | refine s_nil ?_ | (refine k_C ?_; refine s_ret ?_) | (refine k_E ?_; first | refine e_seq ?_ | refine e_seq_ret ?_ | refine e_bk_ret ?_)))
    exact e_done2 rfl rfl rfl [] (PSub.take [] rfl) ⟨rfl, rfl⟩
  · have ho : o = 4 := by assumption
    subst ho
    refine s_call0 (divide_spec 4 a b) rfl (fun _ _ => trivial) ?_
    rintro r L' ⟨rfl, rfl⟩
    (repeat' (first | refine s_assign ?_ | refine s_nil ?_ | (refine k_C ?_; refine s_ret ?_) | (refine k_E ?_; first | refine e_seq ?_ | refine e_seq_ret ?_ | refine e_bk_ret ?_) | refine s_extract rfl rfl ?_))
    exact e_done2 rfl rfl rfl [] (PSub.take [] rfl) ⟨rfl, rfl⟩
  · have ho : o = 5 := by assumption
    subst ho
    refine s_call0 (divide_spec 5 a b) rfl (fun _ _ => trivial) ?_
    rintro r L' ⟨rfl, rfl⟩
    (repeat' (first | refine s_assign ?_ | refine s_nil ?_ | (refine k_C ?_; refine s_ret ?_) | (refine k_E ?_; first | refine e_seq ?_ | refine e_seq_ret ?_ | refine e_bk_ret ?_) | refine s_extract rfl rfl ?_))
    exact e_done2 rfl rfl rfl [] (PSub.take [] rfl) ⟨rfl, rfl⟩
  · have ho : o = 6 := by assumption
    subst ho
    refine s_and rfl rfl ?_
    (repeat' (first | refine s_assign ?_ | refine s_nil ?_ | (refine k_C ?_; refine s_ret ?_) | (refine k_E ?_; first | refine e_seq ?_ | refine e_seq_ret ?_ | refine e_bk_ret ?_)))
    exact e_done2 rfl rfl rfl [] (PSub.take [] rfl) ⟨rfl, rfl⟩
  · have ho : o = 7 := by assumption
    subst ho
    refine s_orG rfl rfl ?_
    (repeat' (first | refine s_assign ?_ | refine s_nil ?_ | (refine k_C ?_; refine s_ret ?_) | (refine k_E ?_; first | refine e_seq ?_ | refine e_seq_ret ?_ | refine e_bk_ret ?_)))
    exact e_done2 rfl rfl rfl [] (PSub.take [] rfl) ⟨rfl, rfl⟩
  · have ho : o = 8 := by assumption
    subst ho
    refine s_xorG rfl rfl ?_
    (repeat' (first | refine s_assign ?_ | refine s_nil ?_ | (refine k_C ?_; refine s_ret ?_) | (refine k_E ?_; first | refine e_seq ?_ | refine e_seq_ret ?_ | refine e_bk_ret ?_)))
    exact e_done2 rfl rfl rfl [] (PSub.take [] rfl) ⟨rfl, rfl⟩
  · have ho : o = 9 := by assumption
    subst ho
    refine s_conv (hs := U_2) (ht := U_105) rfl ?_
    skip
    refine s_and rfl rfl ?_
    rw [hk2]
    refine s_shlG rfl rfl hk ?_
    (repeat' (first | refine s_assign ?_ | refine s_nil ?_ | (refine k_C ?_; refine s_ret ?_) | (refine k_E ?_; first | refine e_seq ?_ | refine e_seq_ret ?_ | refine e_bk_ret ?_)))
    refine e_done2 rfl rfl rfl [] (PSub.take [] rfl) ⟨?_, rfl⟩
    have hs : shW b = k := by have h := and63' (IntKind.u64.wrap b); unfold shW; omega
    show _ = Value.tuple #[.int .i64 (IntKind.i64.wrap (a * 2 ^ shW b)), .bool true]
    rw [hs]; rfl
  · have ho : o = 10 := by assumption
    subst ho
    refine s_conv (hs := U_2) (ht := U_105) rfl ?_
    skip
    refine s_and rfl rfl ?_
    rw [hk2]
    refine s_shrG rfl rfl hk ?_
    (repeat' (first | refine s_assign ?_ | refine s_nil ?_ | (refine k_C ?_; refine s_ret ?_) | (refine k_E ?_; first | refine e_seq ?_ | refine e_seq_ret ?_ | refine e_bk_ret ?_)))
    refine e_done2 rfl rfl rfl [] (PSub.take [] rfl) ⟨?_, rfl⟩
    have hs : shW b = k := by have h := and63' (IntKind.u64.wrap b); unfold shW; omega
    show _ = Value.tuple #[.int .i64 (a / 2 ^ shW b), .bool true]
    rw [hs]; rfl
  · have ho : o = 11 := by assumption
    subst ho
    refine s_call0 (bool_spec _) rfl (fun _ _ => trivial) ?_
    rintro r L' ⟨rfl, rfl⟩
    (repeat' (first | refine s_assign ?_ | refine s_nil ?_ | (refine k_C ?_; refine s_ret ?_) | (refine k_E ?_; first | refine e_seq ?_ | refine e_seq_ret ?_ | refine e_bk_ret ?_)))
    exact e_done2 rfl rfl rfl [] (PSub.take [] rfl) ⟨rfl, rfl⟩
  · have ho : o = 12 := by assumption
    subst ho
    refine s_call0 (bool_spec _) rfl (fun _ _ => trivial) ?_
    rintro r L' ⟨rfl, rfl⟩
    (repeat' (first | refine s_assign ?_ | refine s_nil ?_ | (refine k_C ?_; refine s_ret ?_) | (refine k_E ?_; first | refine e_seq ?_ | refine e_seq_ret ?_ | refine e_bk_ret ?_)))
    exact e_done2 rfl rfl rfl [] (PSub.take [] rfl) ⟨rfl, rfl⟩
  · have ho : o = 13 := by assumption
    subst ho
    refine s_call0 (bool_spec _) rfl (fun _ _ => trivial) ?_
    rintro r L' ⟨rfl, rfl⟩
    (repeat' (first | refine s_assign ?_ | refine s_nil ?_ | (refine k_C ?_; refine s_ret ?_) | (refine k_E ?_; first | refine e_seq ?_ | refine e_seq_ret ?_ | refine e_bk_ret ?_)))
    exact e_done2 rfl rfl rfl [] (PSub.take [] rfl) ⟨rfl, rfl⟩
  · have ho : o = 14 := by assumption
    subst ho
    refine s_call0 (bool_spec _) rfl (fun _ _ => trivial) ?_
    rintro r L' ⟨rfl, rfl⟩
    (repeat' (first | refine s_assign ?_ | refine s_nil ?_ | (refine k_C ?_; refine s_ret ?_) | (refine k_E ?_; first | refine e_seq ?_ | refine e_seq_ret ?_ | refine e_bk_ret ?_)))
    exact e_done2 rfl rfl rfl [] (PSub.take [] rfl) ⟨rfl, rfl⟩
  · have ho : o = 15 := by assumption
    subst ho
    refine s_conv (hs := U_2) (ht := U_105) rfl ?_
    (repeat' (first | refine s_move ?_))
    refine s_conv (hs := U_2) (ht := U_105) rfl ?_
    (repeat' (first | (refine k_bin ?_; refine s_lss rfl rfl ?_)))
    refine s_call0 (bool_spec _) rfl (fun _ _ => trivial) ?_
    rintro r L' ⟨rfl, rfl⟩
    (repeat' (first | refine s_assign ?_ | refine s_nil ?_ | (refine k_C ?_; refine s_ret ?_) | (refine k_E ?_; first | refine e_seq ?_ | refine e_seq_ret ?_ | refine e_bk_ret ?_)))
    exact e_done2 rfl rfl rfl [] (PSub.take [] rfl) ⟨rfl, rfl⟩
  · refine e_done2 rfl rfl rfl [] (PSub.take [] rfl) ⟨?_, rfl⟩
    have e : doW o a b = (0, false) := by simp [doW, *]
    rw [e]; rfl
end Go.Proofs.Ytoknjpmlloikhaa
