/- Few, walked. -/
import Derived.Test.YtoknjpmlloikhaaS15
import Derived.Test.YtoknjpmlloikhaaA10
namespace Go.Proofs.Ytoknjpmlloikhaa
set_option linter.unusedVariables false
set_option linter.unusedSimpArgs false
open Go Go.RowKit

structure FewBk (b : SsaBlock) : Prop where
  p : b.fParams.xs.length ≤ 20
  i : b.fIns.xs.length ≤ 40
  w : b.fEnd.fWays.xs.length ≤ 5
  ia : ∀ m, m < b.fIns.xs.length → (nth b.fIns.xs m).fArgs.xs.length ≤ 20
  wa : ∀ m, m < b.fEnd.fWays.xs.length → (nth b.fEnd.fWays.xs m).fArgs.xs.length ≤ 20
structure FewFn (f : SsaFunc) : Prop where
  b : f.fBlocks.xs.length ≤ 30
  k : ∀ m, m < f.fBlocks.xs.length → FewBk (nth f.fBlocks.xs m)
structure FewPr (p : SsaProg) : Prop where
  a : p.fArrays.xs.length ≤ 10
  f : p.fFuncs.xs.length ≤ 5
  k : ∀ m, m < p.fFuncs.xs.length → FewFn (nth p.fFuncs.xs m)
section
variable {P : Program} {n : Nat} {w0 : World} {f0 : FP} {ops : Array Oper} {m : Bool} {rest : List Oper} {QC : Exit → Fr → World → Prop} {f : Fr} {L : List HP}
variable {d : Tmp} {ty t : TypeId} {x : Operand} {pos : String} {after : Array Edge}
class SrT (P : Program) (t : TypeId) : Prop where
  u : P.underlying t = some .string
theorem s_lenT [ht : SrT P t] {v : ByteArray} (hx : ev f x = .string v) (h : sO P n w0 f0 ops m rest QC (up f d (.int .i64 (v.size : Nat))) L) (hd : Nat.blt d n = true := by rfl) : sO P n w0 f0 ops m (⟨some d, .call { callee := .builtin .len, args := #[x], argTypes := #[t] }, ty, pos, after, none⟩ :: rest) QC f L := by
  intro w H
  refine o_pure (v := .int .i64 (v.size : Nat)) rfl hd ?_ (h w H)
  simp [execOp, resolve, invoke, builtin, hx, Builtin.len_, run_underlying ht.u, goInt, Result.andThen]
end
instance : SrT Try.prog 9 := ⟨by kernel_rfl⟩
theorem few_spec (p : SsaProg) : Spec Try.prog 8 [.agg (Enc.enc p).toArray] [] (fun ok w => RdD ok w p) fun r L' => ∃ b, r = .bool b ∧ L' = [] ∧ (b = true → FewPr p) := by
  refine spec_of Try.func8 rfl rfl fun w0 f0 hR => ?_
  (repeat' (first | refine s_move ?_ | refine s_assign ?_ | refine s_nil ?_ | (refine k_C ?_; first | refine s_seq ?_ | refine s_region ?_ | refine s_skip ?_ | refine s_block ?_ | refine s_ret ?_ | refine s_ift rfl ?_ | (refine s_ifd rfl ?_ ?_ <;> intro hc <;> try (exfalso; omega))) | (refine k_E ?_; first | refine e_seq ?_ | refine e_seq_ret ?_) | (refine k_load ?_; refine s_ldB rfl rfl ?_) | (refine k_bin ?_; refine s_gtr rfl rfl ?_) | (refine k_fld ?_; refine s_fldB rfl ?_) | (refine k_call ?_; refine s_len rfl ?_) | (refine k_guard ?_; first | refine s_on rfl rfl ?_ | refine s_off rfl rfl rfl rfl ?_ | (refine s_casesd rfl rfl ?_ ?_ <;> intro hc <;> try (exfalso; omega))) | (refine s_box _ rfl ?_; intro b) | refine s_pick rfl ?_))
  · exact e_done rfl rfl [] (PSub.take [] rfl) ⟨false, rfl, rfl, fun h => (by cases h)⟩
  · exact e_done rfl rfl [] (PSub.take [] rfl) ⟨false, rfl, rfl, fun h => (by cases h)⟩
  rename_i ha
  refine s_loop (σ := Nat) (fun k => [(1, .pointer (some ⟨b, 0, none⟩)), (2, .bool false), (22, .slice p.fFuncs.A p.fFuncs.xs.length p.fFuncs.c), (23, .int .i64 p.fFuncs.xs.length), (24, .int .i64 (k : Nat))])
    (fun _ => [var 25 b p]) (fun k => k ≤ p.fFuncs.xs.length ∧ ∀ m, m < k → FewFn (nth p.fFuncs.xs m)) (fun k => p.fFuncs.xs.length - k) 0 (by repeat (first | exact trivial | refine ⟨rfl, ?_⟩)) ⟨Nat.zero_le _, fun m hm => absurd hm (Nat.not_lt_zero _)⟩ PSub.refl ?_
  rintro g k ⟨hk, hkf⟩
  (repeat' (first | refine s_nil ?_ | (refine k_C ?_; first | refine s_seq ?_ | refine s_region ?_) | (refine k_E ?_; refine e_seq ?_) | (refine k_bin ?_; refine s_lss rfl rfl ?_)))
  (first | (refine k_C ?_; (refine s_ifd rfl ?_ ?_ <;> intro hc <;> try (exfalso; omega))))
  rotate_left
  · (repeat' (first | refine s_assign ?_ | refine s_nil ?_ | (refine k_C ?_; first | refine s_seq ?_ | refine s_region ?_ | refine s_exit ?_ | refine s_ret ?_) | (refine k_E ?_; first | refine e_seq ?_ | refine e_seq_exit ?_ | refine e_bk_exit ?_ | refine e_lp_exit ?_)))
    exact e_done rfl rfl [] (PSub.take [] rfl) ⟨true, rfl, rfl, fun _ => ⟨by omega, by omega, fun m hm => hkf m (by omega)⟩⟩
  have hkn : k < p.fFuncs.xs.length := by omega
  (repeat' (first | refine s_move ?_ | refine s_assign ?_ | refine s_nil ?_ | (refine k_C ?_; first | refine s_seq ?_ | refine s_region ?_ | refine s_skip ?_ | refine s_block ?_ | refine s_ret ?_ | refine s_ift rfl ?_) | (refine k_E ?_; first | refine e_seq ?_ | refine e_seq_ret ?_ | refine e_bk_ret ?_ | refine e_lp_ret ?_) | (refine k_load ?_; first | refine s_ldB rfl rfl ?_ | refine s_ldSA rfl rfl om rfl ?_) | (refine k_bin ?_; refine s_gtr rfl rfl ?_) | (refine k_fld ?_; refine s_fldB rfl ?_) | (refine k_idx ?_; refine s_idxS rfl rfl om ?_) | (refine k_store ?_; refine s_stW _ rfl rfl ?_) | (refine k_call ?_; refine s_len rfl ?_) | (refine k_guard ?_; first | refine s_on rfl rfl ?_ | refine s_off rfl rfl rfl rfl ?_ | (refine s_casesd rfl rfl ?_ ?_ <;> intro hc <;> try (exfalso; omega))) | (refine s_alloc ?_; intro b) | refine s_pick rfl ?_))
  · exact e_done rfl rfl [] (PSub.take [] rfl) ⟨false, rfl, rfl, fun h => (by cases h)⟩
  refine s_lenT rfl ?_
  (repeat' (first | refine s_move ?_ | refine s_assign ?_ | refine s_nil ?_ | (refine k_C ?_; first | refine s_seq ?_ | refine s_region ?_ | refine s_skip ?_ | refine s_block ?_ | refine s_ret ?_ | (refine s_ifd rfl ?_ ?_ <;> intro hc <;> try (exfalso; omega))) | (refine k_E ?_; first | refine e_seq ?_ | refine e_seq_ret ?_ | refine e_bk_ret ?_ | refine e_lp_ret ?_) | (refine k_load ?_; refine s_ldB rfl rfl ?_) | (refine k_bin ?_; refine s_gtr rfl rfl ?_) | (refine k_fld ?_; refine s_fldB rfl ?_) | (refine k_call ?_; refine s_len rfl ?_) | (refine k_guard ?_; refine s_on rfl rfl ?_) | refine s_pick rfl ?_))
  · exact e_done rfl rfl [] (PSub.take [] rfl) ⟨false, rfl, rfl, fun h => (by cases h)⟩
  rename_i hb1 hb2
  rename Nat => b4
  refine s_loop (σ := Nat) (fun q => [(1, .pointer (some ⟨b, 0, none⟩)), (2, .bool false), (22, .slice p.fFuncs.A p.fFuncs.xs.length p.fFuncs.c), (23, .int .i64 p.fFuncs.xs.length), (24, .int .i64 (k : Nat)), (39, .slice (nth p.fFuncs.xs k).fBlocks.A (nth p.fFuncs.xs k).fBlocks.xs.length (nth p.fFuncs.xs k).fBlocks.c), (40, .int .i64 (nth p.fFuncs.xs k).fBlocks.xs.length), (41, .int .i64 (q : Nat))])
    (fun _ => [var 63 b4 (nth p.fFuncs.xs k), var 25 b p]) (fun q => q ≤ (nth p.fFuncs.xs k).fBlocks.xs.length ∧ ∀ m, m < q → FewBk (nth (nth p.fFuncs.xs k).fBlocks.xs m)) (fun q => (nth p.fFuncs.xs k).fBlocks.xs.length - q) 0 (by repeat (first | exact trivial | refine ⟨rfl, ?_⟩)) ⟨Nat.zero_le _, fun m hm => absurd hm (Nat.not_lt_zero _)⟩ PSub.refl ?_
  rintro g q ⟨hq, hqf⟩
  (repeat' (first | refine s_nil ?_ | (refine k_C ?_; first | refine s_seq ?_ | refine s_region ?_) | (refine k_E ?_; refine e_seq ?_) | (refine k_bin ?_; refine s_lss rfl rfl ?_)))
  (first | (refine k_C ?_; (refine s_ifd rfl ?_ ?_ <;> intro hc <;> try (exfalso; omega))))
  rotate_left
  · (repeat' (first | refine s_move ?_ | refine s_nil ?_ | (refine k_C ?_; first | refine s_region ?_ | refine s_exit ?_) | (refine k_E ?_; first | refine e_seq ?_ | refine e_seq_exit ?_ | refine e_bk_exit ?_ | refine e_bk ?_ | refine e_lp_exit ?_) | (refine k_bin ?_; refine s_add1 rfl rfl om ?_)))
    refine e_lp (k + 1) (by repeat (first | exact trivial | refine ⟨rfl, ?_⟩)) ⟨by omega, fun m hm => ?_⟩ (by show _ - _ < _ - _; omega) (PSub.take [1] rfl)
    rcases Nat.lt_or_ge m k with h | h
    · exact hkf m h
    · obtain rfl : m = k := by omega
      exact ⟨by omega, fun m hm => hqf m (by omega)⟩
  have hqn : q < (nth p.fFuncs.xs k).fBlocks.xs.length := by omega
  (repeat' (first | refine s_move ?_ | refine s_assign ?_ | refine s_nil ?_ | (refine k_C ?_; first | refine s_seq ?_ | refine s_region ?_ | refine s_skip ?_ | refine s_block ?_ | refine s_ret ?_ | refine s_ift rfl ?_ | (refine s_ifd rfl ?_ ?_ <;> intro hc <;> try (exfalso; omega))) | (refine k_E ?_; first | refine e_seq ?_ | refine e_seq_ret ?_ | refine e_bk_ret ?_ | refine e_lp_ret ?_) | (refine k_load ?_; first | refine s_ldB rfl rfl ?_ | refine s_ldSA rfl rfl om rfl ?_) | (refine k_bin ?_; refine s_gtr rfl rfl ?_) | (refine k_fld ?_; refine s_fldB rfl ?_) | (refine k_idx ?_; refine s_idxS rfl rfl om ?_) | (refine k_store ?_; refine s_stW _ rfl rfl ?_) | (refine k_call ?_; refine s_len rfl ?_) | (refine k_guard ?_; first | refine s_on rfl rfl ?_ | refine s_off rfl rfl rfl rfl ?_ | (refine s_casesd rfl rfl ?_ ?_ <;> intro hc <;> try (exfalso; omega))) | (refine s_alloc ?_; intro b) | refine s_pick rfl ?_))
  · exact e_done rfl rfl [] (PSub.take [] rfl) ⟨false, rfl, rfl, fun h => (by cases h)⟩
  · exact e_done rfl rfl [] (PSub.take [] rfl) ⟨false, rfl, rfl, fun h => (by cases h)⟩
  · exact e_done rfl rfl [] (PSub.take [] rfl) ⟨false, rfl, rfl, fun h => (by cases h)⟩
  rename_i hp1 hp2 hp3
  rename Nat => b6
  have hp4 := hc
  clear hc
  generalize hbb : nth (nth p.fFuncs.xs k).fBlocks.xs q = bb at hp1 hp2 hp3 hp4 ⊢
  have hbR : RdD (okOf w0 f0) w0 bb := hbb ▸ (by infer_instance)
  refine s_loop (σ := Nat) (fun j => [(1, .pointer (some ⟨b, 0, none⟩)), (2, .bool false), (22, .slice p.fFuncs.A p.fFuncs.xs.length p.fFuncs.c), (23, .int .i64 p.fFuncs.xs.length), (24, .int .i64 (k : Nat)), (39, .slice (nth p.fFuncs.xs k).fBlocks.A (nth p.fFuncs.xs k).fBlocks.xs.length (nth p.fFuncs.xs k).fBlocks.c), (40, .int .i64 (nth p.fFuncs.xs k).fBlocks.xs.length), (41, .int .i64 (q : Nat)), (6, .pointer (some ⟨b6, 0, none⟩)), (63, .slice bb.fIns.A bb.fIns.xs.length bb.fIns.c), (64, .int .i64 bb.fIns.xs.length), (65, .int .i64 (j : Nat))])
    (fun _ => [var 60 b6 bb, var 63 b4 (nth p.fFuncs.xs k), var 25 b p]) (fun j => j ≤ bb.fIns.xs.length ∧ ∀ m, m < j → (nth bb.fIns.xs m).fArgs.xs.length ≤ 20) (fun j => bb.fIns.xs.length - j) 0 (by repeat (first | exact trivial | refine ⟨rfl, ?_⟩)) ⟨Nat.zero_le _, fun m hm => absurd hm (Nat.not_lt_zero _)⟩ PSub.refl ?_
  rintro g j ⟨hj, hjf⟩
  (repeat' (first | refine s_nil ?_ | (refine k_C ?_; first | refine s_seq ?_ | refine s_region ?_) | (refine k_E ?_; refine e_seq ?_) | (refine k_bin ?_; refine s_lss rfl rfl ?_)))
  (first | (refine k_C ?_; (refine s_ifd rfl ?_ ?_ <;> intro hc <;> try (exfalso; omega))))
  · have hjn : j < bb.fIns.xs.length := by omega
    (repeat' (first | refine s_move ?_ | refine s_assign ?_ | refine s_nil ?_ | (refine k_C ?_; first | refine s_seq ?_ | refine s_region ?_ | refine s_skip ?_ | refine s_block ?_ | refine s_ret ?_ | (refine s_ifd rfl ?_ ?_ <;> intro hc <;> try (exfalso; omega))) | (refine k_E ?_; first | refine e_seq ?_ | refine e_seq_ret ?_ | refine e_bk_ret ?_ | refine e_bk ?_ | refine e_lp_ret ?_) | (refine k_load ?_; first | refine s_ldB rfl rfl ?_ | refine s_ldSA rfl rfl om rfl ?_) | (refine k_bin ?_; first | refine s_add1 rfl rfl om ?_ | refine s_gtr rfl rfl ?_) | (refine k_fld ?_; refine s_fldB rfl ?_) | (refine k_idx ?_; refine s_idxS rfl rfl om ?_) | (refine k_store ?_; refine s_stW _ rfl rfl ?_) | (refine k_call ?_; refine s_len rfl ?_) | (refine s_alloc ?_; intro b)))
    · exact e_done rfl rfl [] (PSub.take [] rfl) ⟨false, rfl, rfl, fun h => (by cases h)⟩
    refine e_lp (j + 1) (by repeat (first | exact trivial | refine ⟨rfl, ?_⟩)) ⟨by omega, fun m hm => ?_⟩ (by show _ - _ < _ - _; omega) (PSub.take [1, 1, 1] rfl)
    rcases Nat.lt_or_ge m j with h | h
    · exact hjf m h
    · obtain rfl : m = j := by omega
      omega
  (repeat' (first | refine s_move ?_ | refine s_nil ?_ | (refine k_C ?_; first | refine s_seq ?_ | refine s_region ?_ | refine s_block ?_ | refine s_exit ?_) | (refine k_E ?_; first | refine e_seq ?_ | refine e_seq_exit ?_ | refine e_bk_exit ?_ | refine e_lp_exit ?_) | (refine k_load ?_; refine s_ldB rfl rfl ?_) | (refine k_fld ?_; refine s_fldB rfl ?_) | (refine k_call ?_; refine s_len rfl ?_)))
  refine s_loop (σ := Nat) (fun j => [(1, .pointer (some ⟨b, 0, none⟩)), (2, .bool false), (22, .slice p.fFuncs.A p.fFuncs.xs.length p.fFuncs.c), (23, .int .i64 p.fFuncs.xs.length), (24, .int .i64 (k : Nat)), (39, .slice (nth p.fFuncs.xs k).fBlocks.A (nth p.fFuncs.xs k).fBlocks.xs.length (nth p.fFuncs.xs k).fBlocks.c), (40, .int .i64 (nth p.fFuncs.xs k).fBlocks.xs.length), (41, .int .i64 (q : Nat)), (6, .pointer (some ⟨b6, 0, none⟩)), (76, .slice bb.fEnd.fWays.A bb.fEnd.fWays.xs.length bb.fEnd.fWays.c), (77, .int .i64 bb.fEnd.fWays.xs.length), (78, .int .i64 (j : Nat))])
    (fun _ => [var 60 b6 bb, var 63 b4 (nth p.fFuncs.xs k), var 25 b p]) (fun j => j ≤ bb.fEnd.fWays.xs.length ∧ ∀ m, m < j → (nth bb.fEnd.fWays.xs m).fArgs.xs.length ≤ 20) (fun j => bb.fEnd.fWays.xs.length - j) 0 (by repeat (first | exact trivial | refine ⟨rfl, ?_⟩)) ⟨Nat.zero_le _, fun m hm => absurd hm (Nat.not_lt_zero _)⟩ PSub.refl ?_
  rintro g i ⟨hi, hif⟩
  (repeat' (first | refine s_nil ?_ | (refine k_C ?_; first | refine s_seq ?_ | refine s_region ?_) | (refine k_E ?_; refine e_seq ?_) | (refine k_bin ?_; refine s_lss rfl rfl ?_)))
  (first | (refine k_C ?_; (refine s_ifd rfl ?_ ?_ <;> intro hc <;> try (exfalso; omega))))
  · have hin : i < bb.fEnd.fWays.xs.length := by omega
    (repeat' (first | refine s_move ?_ | refine s_assign ?_ | refine s_nil ?_ | (refine k_C ?_; first | refine s_seq ?_ | refine s_region ?_ | refine s_skip ?_ | refine s_block ?_ | refine s_ret ?_ | (refine s_ifd rfl ?_ ?_ <;> intro hc <;> try (exfalso; omega))) | (refine k_E ?_; first | refine e_seq ?_ | refine e_seq_ret ?_ | refine e_bk_ret ?_ | refine e_bk ?_ | refine e_lp_ret ?_) | (refine k_load ?_; first | refine s_ldB rfl rfl ?_ | refine s_ldSA rfl rfl om rfl ?_) | (refine k_bin ?_; first | refine s_add1 rfl rfl om ?_ | refine s_gtr rfl rfl ?_) | (refine k_fld ?_; refine s_fldB rfl ?_) | (refine k_idx ?_; refine s_idxS rfl rfl om ?_) | (refine k_store ?_; refine s_stW _ rfl rfl ?_) | (refine k_call ?_; refine s_len rfl ?_) | (refine s_alloc ?_; intro b)))
    · exact e_done rfl rfl [] (PSub.take [] rfl) ⟨false, rfl, rfl, fun h => (by cases h)⟩
    refine e_lp (i + 1) (by repeat (first | exact trivial | refine ⟨rfl, ?_⟩)) ⟨by omega, fun m hm => ?_⟩ (by show _ - _ < _ - _; omega) (PSub.take [1, 1, 1] rfl)
    rcases Nat.lt_or_ge m i with h | h
    · exact hif m h
    · obtain rfl : m = i := by omega
      omega
  (repeat' (first | refine s_move ?_ | refine s_nil ?_ | (refine k_C ?_; first | refine s_region ?_ | refine s_exit ?_) | (refine k_E ?_; first | refine e_seq ?_ | refine e_seq_exit ?_ | refine e_bk_exit ?_ | refine e_bk ?_ | refine e_lp_exit ?_) | (refine k_bin ?_; refine s_add1 rfl rfl om ?_)))
  refine e_lp (q + 1) (by repeat (first | exact trivial | refine ⟨rfl, ?_⟩)) ⟨by omega, fun m hm => ?_⟩ (by show _ - _ < _ - _; omega) (PSub.take [1, 1] rfl)
  rcases Nat.lt_or_ge m q with h | h
  · exact hqf m h
  · obtain rfl : m = q := by omega
    rw [hbb]
    exact ⟨by omega, by omega, by omega, fun m hm => hjf m (by omega), fun m hm => hif m (by omega)⟩
theorem fewP_pr {p : SsaProg} (h : FewPr p) : FewP p := by
  have ha := h.a
  have hf := h.f
  refine ⟨by omega, by omega, fun i => ?_⟩
  by_cases hi : i < p.fFuncs.xs.length
  · have hk := h.k i hi
    have hb := hk.b
    have hd : ∀ j, (nth (nth p.fFuncs.xs i).fBlocks.xs j).fParams.xs.length ≤ 1000 ∧ (nth (nth p.fFuncs.xs i).fBlocks.xs j).fIns.xs.length ≤ 1000 ∧ (nth (nth p.fFuncs.xs i).fBlocks.xs j).fEnd.fWays.xs.length ≤ 1000 := fun j => by
      by_cases hj : j < (nth p.fFuncs.xs i).fBlocks.xs.length
      · have q := hk.k j hj
        have q1 := q.p
        have q2 := q.i
        have q3 := q.w
        exact ⟨by omega, by omega, by omega⟩
      · rw [nth_out (i := j) (by omega)]
        exact ⟨Nat.zero_le _, Nat.zero_le _, Nat.zero_le _⟩
    exact ⟨by omega, fun j => (hd j).1, fun j => (hd j).2.1, fun j => (hd j).2.2⟩
  · rw [nth_out (by omega)]
    exact ⟨Nat.zero_le _, fun j => by rw [nth_out (xs := (Enc.dflt : SsaFunc).fBlocks.xs) (Nat.zero_le _)]; exact Nat.zero_le _, fun j => by rw [nth_out (xs := (Enc.dflt : SsaFunc).fBlocks.xs) (Nat.zero_le _)]; exact Nat.zero_le _, fun j => by rw [nth_out (xs := (Enc.dflt : SsaFunc).fBlocks.xs) (Nat.zero_le _)]; exact Nat.zero_le _⟩

end Go.Proofs.Ytoknjpmlloikhaa
