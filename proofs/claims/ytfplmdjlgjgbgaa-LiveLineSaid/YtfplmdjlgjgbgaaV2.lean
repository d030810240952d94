/- Layer 15: back. -/
import Derived.Test.YtfplmdjlgjgbgaaV1
namespace Go.Proofs.Ytfplmdjlgjgbgaa
set_option linter.unusedVariables false
set_option linter.unusedSimpArgs false
open Go Go.RowKit

def stepI (i : SsaIns) (p : Int → Bool) : Int → Bool := addL (fun k => p k && !decide (k = i.fDst)) i.fArgs.xs
/-- What is used later ahead of instruction k (as many as there are: the end), by what is behind the block. -/
def liveB (b : SsaBlock) (out : Int → Bool) (k : Nat) : Int → Bool := (b.fIns.xs.drop k).foldr stepI (addL out (usesE b.fEnd))
def backP (b : SsaBlock) (out : Int → Bool) : Int → Bool := liveB b out 0
theorem liveB_end {b : SsaBlock} {out : Int → Bool} : liveB b out b.fIns.xs.length = addL out (usesE b.fEnd) := by unfold liveB; rw [List.drop_length]; rfl
theorem liveB_step {b : SsaBlock} {out : Int → Bool} {k : Nat} (h : k < b.fIns.xs.length) : liveB b out k = stepI (nth b.fIns.xs k) (liveB b out (k + 1)) := by
  unfold liveB; rw [List.drop_eq_getElem_cons h, ← nth_get h]; rfl
structure OkB (b : SsaBlock) : Prop where
  p : b.fParams.xs.length ≤ 1000
  i : b.fIns.xs.length ≤ 1000
  a : ∀ m, m < b.fIns.xs.length → (nth b.fIns.xs m).fArgs.xs.length ≤ 1000
  w : b.fEnd.fWays.xs.length ≤ 1000
  u : (usesE b.fEnd).length ≤ 1000000
def RdPs (v : Option Nat) (N : Nat) (p : Int → Bool) : FP → World → Prop := fun ok w => RdM EB 3 ok w v N (setP p)
theorem RdPs.lasts (v : Option Nat) (N : Nat) (p : Int → Bool) : Lasts (RdPs v N p) := fun _ _ _ _ h hk => h.loc hk
instance : FnT Try.prog 73 := ⟨.func #[3, 58] #[] false, by kernel_rfl, trivial⟩
/-- What becomes of what is told each place, from the last one. -/
def atS {σ : Type} (step : σ → Nat → (Int → Bool) → σ) (b : SsaBlock) (out : Int → Bool) (s0 : σ) (r : Nat) : σ := (List.range' r (b.fIns.xs.length - r)).foldr (fun k s => step s k (liveB b out (k + 1))) s0
theorem atS_end {σ : Type} {step : σ → Nat → (Int → Bool) → σ} {b : SsaBlock} {out : Int → Bool} {s0 : σ} : atS step b out s0 b.fIns.xs.length = s0 := by unfold atS; rw [Nat.sub_self]; rfl
theorem atS_step {σ : Type} {step : σ → Nat → (Int → Bool) → σ} {b : SsaBlock} {out : Int → Bool} {s0 : σ} {r : Nat} (h : r < b.fIns.xs.length) : atS step b out s0 r = step (atS step b out s0 (r + 1)) r (liveB b out (r + 1)) := by
  unfold atS
  rw [show b.fIns.xs.length - r = (b.fIns.xs.length - (r + 1)) + 1 by omega, List.range'_succ]; rfl
set_option maxHeartbeats 4000000 in
theorem backN_spec (bl : SsaBlock) (hb : OkB bl) (v : Option Nat) (N : Nat) (p : Int → Bool) (hN : N ≤ 100000000) : Spec Try.prog 20 [.agg (Enc.enc bl).toArray, .map v, .nilFunc] [] (fun ok w => RdPs v N p ok w ∧ RdD ok w bl) fun r L' => ∃ q N', r = .map (some q) ∧ N' ≤ N + 2001000 ∧ L' = [mp EB 3 q N' (setP (backP bl p))] := by
  refine spec_of Try.func20 rfl rfl fun w0 f0 ⟨hm, hR⟩ => ?_
  haveI : RdMp EB 3 (okOf w0 f0) w0 v N (setP p) := ⟨hm⟩
  have hbi := hb.i
  (repeat' (first | refine s_move ?_ | refine s_assign ?_ | refine s_nil ?_ | (refine k_C ?_; first | refine s_seq ?_ | refine s_region ?_) | (refine k_E ?_; refine e_seq ?_) | (refine s_box _ rfl ?_; intro b) | (refine s_mkmapB ?_; intro b)))
  rename Nat => m
  obtain ⟨b3, rfl⟩ : ∃ q, q = b := ⟨_, rfl⟩
  refine s_rangeS rfl ?_
  intro es clock cnt r hcnt hM
  (repeat' (first | refine s_nil ?_ | (refine k_C ?_; refine s_block ?_) | (refine k_E ?_; refine e_seq ?_)))
  refine s_loop (σ := (Int → Bool) × Nat × Nat) (fun s => [(3, .pointer (some ⟨b3, 0, none⟩)), (2, .nilFunc), (7, .map (some m)), (16, .pointer (some ⟨r, 0, none⟩))])
    (fun s => [itr Try.prog 3 4 v r es clock s.1 s.2.1, mp EB 3 m s.2.2 (setP (goneP p s.1)), var 31 b3 bl]) (fun s => s.2.2 + s.2.1 ≤ N) (fun s => s.2.1) ((fun k => (setP p k).isSome), cnt, 0) (by repeat (first | exact trivial | refine ⟨rfl, ?_⟩)) (by simpa using hcnt) (PSub.eq ?_) ?_
  · simp only [← goneP_start]
  rintro f ⟨todo, c1, n1⟩ hJ
  dsimp only at hJ
  (repeat' (first | (refine k_C ?_; first | refine s_seq ?_ | refine s_region ?_)))
  refine s_nextS U_3 hM rfl (fun hf => ?_) (fun k x cnt' hk hg ht hF hlt => ?_)
  rotate_left
  · haveI : RdD (okOf w0 f0) w0 k := ⟨hk⟩
    dsimp only at hlt ⊢
    (repeat' (first | refine s_nil ?_ | (refine k_C ?_; first | refine s_seq ?_ | refine s_region ?_ | refine s_skip ?_ | refine s_block ?_ | refine s_ift rfl ?_) | (refine k_E ?_; refine e_seq ?_) | refine s_extract rfl rfl ?_))
    refine s_entryS hM rfl ?_
    (repeat' (first | refine s_move ?_ | refine s_assign ?_ | refine s_nil ?_ | (refine k_C ?_; refine s_region ?_) | (refine k_E ?_; first | refine e_seq ?_ | refine e_bk ?_) | refine s_putW (yv := true) rfl rfl rfl trivial om ?_ | refine s_extract rfl rfl ?_))
    refine e_lp (fun j => todo j && j != k, cnt', n1 + 1) (by repeat (first | exact trivial | refine ⟨rfl, ?_⟩)) (by show n1 + 1 + cnt' ≤ N; omega) hlt (PSub.eq ?_)
    rw [goneP_step hF]
  dsimp only
  (repeat' (first | refine s_nil ?_ | (refine k_C ?_; first | refine s_seq ?_ | refine s_region ?_ | refine s_exit ?_ | refine s_iff rfl ?_) | (refine k_E ?_; first | refine e_seq ?_ | refine e_seq_exit ?_ | refine e_bk_exit ?_ | refine e_lp_exit ?_) | (refine k_load ?_; refine s_ldBA rfl (by decide) ?_) | (refine k_fld ?_; refine s_fldB rfl ?_) | refine s_extract rfl rfl ?_))
  rw [goneP_end hf]
  refine s_call0 (uses_spec bl.fEnd hb.u (by have := hb.w; omega)) rfl (fun w1 H => H.rdD (by infer_instance)) ?_
  rintro r' L' ⟨A, c, rfl, rfl⟩
  (repeat' (first | refine s_move ?_ | refine s_nil ?_ | (refine k_C ?_; refine s_block ?_) | (refine k_E ?_; refine e_seq ?_) | (refine k_call ?_; refine s_len rfl ?_)))
  have hul := hb.u
  refine s_loop (σ := Nat) (fun i => [(3, .pointer (some ⟨b3, 0, none⟩)), (2, .nilFunc), (7, .map (some m)), (25, .slice A (usesE bl.fEnd).length c), (26, .int .i64 (usesE bl.fEnd).length), (27, .int .i64 i)])
    (fun i => [own 3 A (usesE bl.fEnd).length c (usesE bl.fEnd), mp EB 3 m (n1 + i) (setP (addL p ((usesE bl.fEnd).take i))), var 31 b3 bl]) (fun i => i ≤ (usesE bl.fEnd).length) (fun i => (usesE bl.fEnd).length - i) 0 (by repeat (first | exact trivial | refine ⟨rfl, ?_⟩)) (Nat.zero_le _) (PSub.eq (by simp [addL_nil])) ?_
  intro f i hi
  (repeat' (first | refine s_nil ?_ | (refine k_C ?_; first | refine s_seq ?_ | refine s_region ?_) | (refine k_E ?_; refine e_seq ?_) | (refine k_bin ?_; refine s_lss rfl rfl ?_)))
  (first | (refine k_C ?_; (refine s_ifd rfl ?_ ?_ <;> intro hc <;> try (exfalso; omega))))
  · have hin : i < (usesE bl.fEnd).length := by omega
    haveI : RdD (okOf w0 f0) w0 (nth (usesE bl.fEnd) i) := ⟨usesE_wf (e := bl.fEnd) (ok := okOf w0 f0) (w := w0) (by infer_instance) _ (nth_mem hin)⟩
    (repeat' (first | refine s_move ?_ | refine s_assign ?_ | refine s_nil ?_ | (refine k_C ?_; first | refine s_seq ?_ | refine s_region ?_ | refine s_skip ?_ | refine s_block ?_) | (refine k_E ?_; first | refine e_seq ?_ | refine e_bk ?_) | (refine k_load ?_; refine s_ld rfl om rfl ?_) | (refine k_bin ?_; refine s_add1 rfl rfl om ?_) | (refine k_idx ?_; refine s_idx rfl rfl om ?_) | refine s_putW (yv := true) rfl rfl rfl trivial om ?_))
    refine e_lp (i + 1) (by repeat (first | exact trivial | refine ⟨rfl, ?_⟩)) (by show i + 1 ≤ _; omega) (by show _ - _ < _ - _; omega) (PSub.eq ?_)
    rw [setP_put, addL_put, takeN hin]; rfl
  have hiE : i = (usesE bl.fEnd).length := by omega
  subst hiE
  rw [List.take_length, ← liveB_end]
  (repeat' (first | refine s_assign ?_ | refine s_nil ?_ | (refine k_C ?_; first | refine s_seq ?_ | refine s_region ?_ | refine s_block ?_ | refine s_exit ?_) | (refine k_E ?_; first | refine e_seq ?_ | refine e_seq_exit ?_ | refine e_bk_exit ?_ | refine e_lp_exit ?_) | (refine k_load ?_; refine s_ldB rfl rfl ?_) | (refine k_bin ?_; refine s_sub64 rfl rfl om ?_) | (refine k_fld ?_; refine s_fldB rfl ?_) | (refine k_call ?_; refine s_len rfl ?_)))
  refine s_loop (σ := Nat × Nat) (fun s => [(3, .pointer (some ⟨b3, 0, none⟩)), (2, .nilFunc), (7, .map (some m)), (11, .int .i64 ((s.1 : Int) - 1))])
    (fun s => [mp EB 3 m s.2 (setP (liveB bl p s.1)), var 31 b3 bl])
    (fun s => s.1 ≤ bl.fIns.xs.length ∧ s.2 + 1000 * s.1 ≤ n1 + (usesE bl.fEnd).length + 1000 * bl.fIns.xs.length) (fun s => s.1) (bl.fIns.xs.length, n1 + (usesE bl.fEnd).length) (by repeat (first | exact trivial | refine ⟨rfl, ?_⟩)) ⟨Nat.le_refl _, Nat.le_refl _⟩ (PSub.take [1, 1] rfl) ?_
  rintro f ⟨q, n2⟩ ⟨hq, hn2⟩
  dsimp only at hq hn2 ⊢
  (repeat' (first | refine s_move ?_ | refine s_nil ?_ | (refine k_C ?_; first | refine s_seq ?_ | refine s_region ?_) | (refine k_E ?_; refine e_seq ?_) | (refine k_bin ?_; refine s_geq rfl rfl ?_)))
  (first | (refine k_C ?_; (refine s_ifd rfl ?_ ?_ <;> intro hc <;> try (exfalso; omega))))
  rotate_left
  · have hq0 : q = 0 := by omega
    subst hq0
    (repeat' (first | refine s_move ?_ | refine s_assign ?_ | refine s_nil ?_ | (refine k_C ?_; first | refine s_seq ?_ | refine s_region ?_ | refine s_exit ?_ | refine s_ret ?_) | (refine k_E ?_; first | refine e_seq ?_ | refine e_seq_exit ?_ | refine e_bk_exit ?_ | refine e_lp_exit ?_)))
    exact e_done rfl rfl _ (PSub.take [0] rfl) ⟨m, n2, rfl, by omega, rfl⟩
  obtain ⟨q, rfl⟩ : ∃ q', q = q' + 1 := ⟨q - 1, by omega⟩
  have hqn : q < bl.fIns.xs.length := by omega
  have hqa := hb.a q hqn
  rw [show ((q + 1 : Nat) : Int) - 1 = (q : Int) by omega]
  (repeat' (first | refine s_move ?_ | (refine k_C ?_; first | refine s_seq ?_ | refine s_region ?_ | refine s_skip ?_ | refine s_block ?_) | (refine k_E ?_; refine e_seq ?_)))
  refine s_fnn rfl (.inl rfl) rfl ?_
  (repeat' (first | refine s_move ?_ | refine s_nil ?_ | (refine k_C ?_; first | refine s_seq ?_ | refine s_region ?_ | refine s_skip ?_ | refine s_iff rfl ?_) | (refine k_E ?_; refine e_seq ?_) | (refine k_load ?_; first | refine s_ldB rfl rfl ?_ | refine s_ldSF rfl rfl om rfl ?_) | (refine k_fld ?_; first | refine s_fld rfl ?_ | refine s_fldB rfl ?_) | (refine k_idx ?_; refine s_idxS rfl rfl om ?_)))
  refine s_delN rfl rfl ?_
  rw [setP_del]
  (repeat' (first | refine s_move ?_ | refine s_nil ?_ | (refine k_C ?_; first | refine s_seq ?_ | refine s_region ?_ | refine s_block ?_) | (refine k_E ?_; refine e_seq ?_) | (refine k_load ?_; first | refine s_ldB rfl rfl ?_ | refine s_ldSF rfl rfl om rfl ?_) | (refine k_fld ?_; first | refine s_fld rfl ?_ | refine s_fldB rfl ?_) | (refine k_idx ?_; refine s_idxS rfl rfl om ?_) | (refine k_call ?_; refine s_len rfl ?_)))
  refine s_loop (σ := Nat) (fun i => [(3, .pointer (some ⟨b3, 0, none⟩)), (2, .nilFunc), (7, .map (some m)), (11, .int .i64 (q : Int)), (60, .slice (nth bl.fIns.xs q).fArgs.A (nth bl.fIns.xs q).fArgs.xs.length (nth bl.fIns.xs q).fArgs.c), (61, .int .i64 (nth bl.fIns.xs q).fArgs.xs.length), (62, .int .i64 i)])
    (fun i => [mp EB 3 m (n2 + i) (setP (addL (fun j => liveB bl p (q + 1) j && !decide (j = (nth bl.fIns.xs q).fDst)) ((nth bl.fIns.xs q).fArgs.xs.take i))), var 31 b3 bl]) (fun i => i ≤ (nth bl.fIns.xs q).fArgs.xs.length) (fun i => (nth bl.fIns.xs q).fArgs.xs.length - i) 0 (by repeat (first | exact trivial | refine ⟨rfl, ?_⟩)) (Nat.zero_le _) (PSub.eq (by simp only [List.take_zero, addL_nil, Nat.add_zero])) ?_
  intro f i hi
  (repeat' (first | refine s_nil ?_ | (refine k_C ?_; first | refine s_seq ?_ | refine s_region ?_) | (refine k_E ?_; refine e_seq ?_) | (refine k_bin ?_; refine s_lss rfl rfl ?_)))
  (first | (refine k_C ?_; (refine s_ifd rfl ?_ ?_ <;> intro hc <;> try (exfalso; omega))))
  · have hin : i < (nth bl.fIns.xs q).fArgs.xs.length := by omega
    (repeat' (first | refine s_move ?_ | refine s_assign ?_ | refine s_nil ?_ | (refine k_C ?_; first | refine s_seq ?_ | refine s_region ?_ | refine s_skip ?_ | refine s_block ?_) | (refine k_E ?_; first | refine e_seq ?_ | refine e_bk ?_) | (refine k_load ?_; refine s_ldS rfl rfl om rfl ?_) | (refine k_bin ?_; refine s_add1 rfl rfl om ?_) | (refine k_idx ?_; refine s_idxS rfl rfl om ?_) | refine s_putW (yv := true) rfl rfl rfl trivial om ?_))
    refine e_lp (i + 1) (by repeat (first | exact trivial | refine ⟨rfl, ?_⟩)) (by show i + 1 ≤ _; omega) (by show _ - _ < _ - _; omega) (PSub.eq ?_)
    rw [setP_put, addL_put, takeN hin]; rfl
  have hiE : i = (nth bl.fIns.xs q).fArgs.xs.length := by omega
  subst hiE
  rw [List.take_length]
  (repeat' (first | refine s_move ?_ | refine s_assign ?_ | refine s_nil ?_ | (refine k_C ?_; first | refine s_region ?_ | refine s_exit ?_) | (refine k_E ?_; first | refine e_seq ?_ | refine e_seq_exit ?_ | refine e_bk_exit ?_ | refine e_bk ?_ | refine e_lp_exit ?_) | (refine k_bin ?_; refine s_sub64 rfl rfl om ?_)))
  refine e_lp (q, n2 + (nth bl.fIns.xs q).fArgs.xs.length) (by repeat (first | exact trivial | refine ⟨rfl, ?_⟩)) ⟨by show q ≤ _; omega, by show n2 + _ + 1000 * q ≤ _; omega⟩ (by show q < q + 1; omega) (PSub.eq ?_)
  rw [liveB_step hqn]; rfl
set_option maxHeartbeats 4000000 in
theorem backF_spec (bl : SsaBlock) (hb : OkB bl) (v : Option Nat) (N : Nat) (p : Int → Bool) (hN : N ≤ 100000000) {σ : Type} (I : σ → HP) (step : σ → Nat → (Int → Bool) → σ) (s0 : σ) (g : FuncId) (cap : List Value) (Rd : FP → World → Prop) (hL : Lasts Rd) [IsFc Try.prog g]
    (hat : ∀ (k q n : Nat), k < bl.fIns.xs.length → n ≤ N + 2001000 → Spec Try.prog g ([.int .i64 (k : Nat), .map (some q)] ++ cap) [I (atS step bl p s0 (k + 1))] (fun ok w => Rd ok w ∧ RdPs (some q) n (liveB bl p (k + 1)) ok w) fun r L' => L' = [I (step (atS step bl p s0 (k + 1)) k (liveB bl p (k + 1)))]) :
    Spec Try.prog 20 [.agg (Enc.enc bl).toArray, .map v, .func (.func g) #[] cap.toArray] [I s0] (fun ok w => Rd ok w ∧ RdPs v N p ok w ∧ RdD ok w bl) fun r L' => ∃ q N', r = .map (some q) ∧ N' ≤ N + 2001000 ∧ L' = [mp EB 3 q N' (setP (backP bl p)), I (atS step bl p s0 0)] := by
  refine spec_of Try.func20 rfl rfl fun w0 f0 ⟨hRd, hm, hR⟩ => ?_
  haveI : RdMp EB 3 (okOf w0 f0) w0 v N (setP p) := ⟨hm⟩
  have hbi := hb.i
  (repeat' (first | refine s_move ?_ | refine s_assign ?_ | refine s_nil ?_ | (refine k_C ?_; first | refine s_seq ?_ | refine s_region ?_) | (refine k_E ?_; refine e_seq ?_) | (refine s_box _ rfl ?_; intro b) | (refine s_mkmapB ?_; intro b)))
  rename Nat => m
  obtain ⟨b3, rfl⟩ : ∃ q, q = b := ⟨_, rfl⟩
  refine s_rangeS rfl ?_
  intro es clock cnt r hcnt hM
  (repeat' (first | refine s_nil ?_ | (refine k_C ?_; refine s_block ?_) | (refine k_E ?_; refine e_seq ?_)))
  refine s_loop (σ := (Int → Bool) × Nat × Nat) (fun s => [(3, .pointer (some ⟨b3, 0, none⟩)), (2, .func (.func g) #[] cap.toArray), (7, .map (some m)), (16, .pointer (some ⟨r, 0, none⟩))])
    (fun s => [itr Try.prog 3 4 v r es clock s.1 s.2.1, mp EB 3 m s.2.2 (setP (goneP p s.1)), var 31 b3 bl, I (s0)]) (fun s => s.2.2 + s.2.1 ≤ N) (fun s => s.2.1) ((fun k => (setP p k).isSome), cnt, 0) (by repeat (first | exact trivial | refine ⟨rfl, ?_⟩)) (by simpa using hcnt) (PSub.eq ?_) ?_
  · simp only [← goneP_start]
  rintro f ⟨todo, c1, n1⟩ hJ
  dsimp only at hJ
  (repeat' (first | (refine k_C ?_; first | refine s_seq ?_ | refine s_region ?_)))
  refine s_nextS U_3 hM rfl (fun hf => ?_) (fun k x cnt' hk hg ht hF hlt => ?_)
  rotate_left
  · haveI : RdD (okOf w0 f0) w0 k := ⟨hk⟩
    dsimp only at hlt ⊢
    (repeat' (first | refine s_nil ?_ | (refine k_C ?_; first | refine s_seq ?_ | refine s_region ?_ | refine s_skip ?_ | refine s_block ?_ | refine s_ift rfl ?_) | (refine k_E ?_; refine e_seq ?_) | refine s_extract rfl rfl ?_))
    refine s_entryS hM rfl ?_
    (repeat' (first | refine s_move ?_ | refine s_assign ?_ | refine s_nil ?_ | (refine k_C ?_; refine s_region ?_) | (refine k_E ?_; first | refine e_seq ?_ | refine e_bk ?_) | refine s_putW (yv := true) rfl rfl rfl trivial om ?_ | refine s_extract rfl rfl ?_))
    refine e_lp (fun j => todo j && j != k, cnt', n1 + 1) (by repeat (first | exact trivial | refine ⟨rfl, ?_⟩)) (by show n1 + 1 + cnt' ≤ N; omega) hlt (PSub.eq ?_)
    rw [goneP_step hF]
  dsimp only
  (repeat' (first | refine s_nil ?_ | (refine k_C ?_; first | refine s_seq ?_ | refine s_region ?_ | refine s_exit ?_ | refine s_iff rfl ?_) | (refine k_E ?_; first | refine e_seq ?_ | refine e_seq_exit ?_ | refine e_bk_exit ?_ | refine e_lp_exit ?_) | (refine k_load ?_; refine s_ldBA rfl (by decide) ?_) | (refine k_fld ?_; refine s_fldB rfl ?_) | refine s_extract rfl rfl ?_))
  rw [goneP_end hf]
  refine s_call0 (uses_spec bl.fEnd hb.u (by have := hb.w; omega)) rfl (fun w1 H => H.rdD (by infer_instance)) ?_
  rintro r' L' ⟨A, c, rfl, rfl⟩
  (repeat' (first | refine s_move ?_ | refine s_nil ?_ | (refine k_C ?_; refine s_block ?_) | (refine k_E ?_; refine e_seq ?_) | (refine k_call ?_; refine s_len rfl ?_)))
  have hul := hb.u
  refine s_loop (σ := Nat) (fun i => [(3, .pointer (some ⟨b3, 0, none⟩)), (2, .func (.func g) #[] cap.toArray), (7, .map (some m)), (25, .slice A (usesE bl.fEnd).length c), (26, .int .i64 (usesE bl.fEnd).length), (27, .int .i64 i)])
    (fun i => [own 3 A (usesE bl.fEnd).length c (usesE bl.fEnd), mp EB 3 m (n1 + i) (setP (addL p ((usesE bl.fEnd).take i))), var 31 b3 bl, I (s0)]) (fun i => i ≤ (usesE bl.fEnd).length) (fun i => (usesE bl.fEnd).length - i) 0 (by repeat (first | exact trivial | refine ⟨rfl, ?_⟩)) (Nat.zero_le _) (PSub.eq (by simp [addL_nil])) ?_
  intro f i hi
  (repeat' (first | refine s_nil ?_ | (refine k_C ?_; first | refine s_seq ?_ | refine s_region ?_) | (refine k_E ?_; refine e_seq ?_) | (refine k_bin ?_; refine s_lss rfl rfl ?_)))
  (first | (refine k_C ?_; (refine s_ifd rfl ?_ ?_ <;> intro hc <;> try (exfalso; omega))))
  · have hin : i < (usesE bl.fEnd).length := by omega
    haveI : RdD (okOf w0 f0) w0 (nth (usesE bl.fEnd) i) := ⟨usesE_wf (e := bl.fEnd) (ok := okOf w0 f0) (w := w0) (by infer_instance) _ (nth_mem hin)⟩
    (repeat' (first | refine s_move ?_ | refine s_assign ?_ | refine s_nil ?_ | (refine k_C ?_; first | refine s_seq ?_ | refine s_region ?_ | refine s_skip ?_ | refine s_block ?_) | (refine k_E ?_; first | refine e_seq ?_ | refine e_bk ?_) | (refine k_load ?_; refine s_ld rfl om rfl ?_) | (refine k_bin ?_; refine s_add1 rfl rfl om ?_) | (refine k_idx ?_; refine s_idx rfl rfl om ?_) | refine s_putW (yv := true) rfl rfl rfl trivial om ?_))
    refine e_lp (i + 1) (by repeat (first | exact trivial | refine ⟨rfl, ?_⟩)) (by show i + 1 ≤ _; omega) (by show _ - _ < _ - _; omega) (PSub.eq ?_)
    rw [setP_put, addL_put, takeN hin]; rfl
  have hiE : i = (usesE bl.fEnd).length := by omega
  subst hiE
  rw [List.take_length, ← liveB_end]
  (repeat' (first | refine s_assign ?_ | refine s_nil ?_ | (refine k_C ?_; first | refine s_seq ?_ | refine s_region ?_ | refine s_block ?_ | refine s_exit ?_) | (refine k_E ?_; first | refine e_seq ?_ | refine e_seq_exit ?_ | refine e_bk_exit ?_ | refine e_lp_exit ?_) | (refine k_load ?_; refine s_ldB rfl rfl ?_) | (refine k_bin ?_; refine s_sub64 rfl rfl om ?_) | (refine k_fld ?_; refine s_fldB rfl ?_) | (refine k_call ?_; refine s_len rfl ?_)))
  refine s_loop (σ := Nat × Nat) (fun s => [(3, .pointer (some ⟨b3, 0, none⟩)), (2, .func (.func g) #[] cap.toArray), (7, .map (some m)), (11, .int .i64 ((s.1 : Int) - 1))])
    (fun s => [mp EB 3 m s.2 (setP (liveB bl p s.1)), var 31 b3 bl, I (atS step bl p s0 s.1)])
    (fun s => s.1 ≤ bl.fIns.xs.length ∧ s.2 + 1000 * s.1 ≤ n1 + (usesE bl.fEnd).length + 1000 * bl.fIns.xs.length) (fun s => s.1) (bl.fIns.xs.length, n1 + (usesE bl.fEnd).length) (by repeat (first | exact trivial | refine ⟨rfl, ?_⟩)) ⟨Nat.le_refl _, Nat.le_refl _⟩ (PSub.take [1, 1, 1] (by simp only [pickL, List.eraseIdx, List.getElem?_cons_zero, List.getElem?_cons_succ, atS_end])) ?_
  rintro f ⟨q, n2⟩ ⟨hq, hn2⟩
  dsimp only at hq hn2 ⊢
  (repeat' (first | refine s_move ?_ | refine s_nil ?_ | (refine k_C ?_; first | refine s_seq ?_ | refine s_region ?_) | (refine k_E ?_; refine e_seq ?_) | (refine k_bin ?_; refine s_geq rfl rfl ?_)))
  (first | (refine k_C ?_; (refine s_ifd rfl ?_ ?_ <;> intro hc <;> try (exfalso; omega))))
  rotate_left
  · have hq0 : q = 0 := by omega
    subst hq0
    (repeat' (first | refine s_move ?_ | refine s_assign ?_ | refine s_nil ?_ | (refine k_C ?_; first | refine s_seq ?_ | refine s_region ?_ | refine s_exit ?_ | refine s_ret ?_) | (refine k_E ?_; first | refine e_seq ?_ | refine e_seq_exit ?_ | refine e_bk_exit ?_ | refine e_lp_exit ?_)))
    exact e_done rfl rfl _ (PSub.take [0, 1] rfl) ⟨m, n2, rfl, by omega, rfl⟩
  obtain ⟨q, rfl⟩ : ∃ q', q = q' + 1 := ⟨q - 1, by omega⟩
  have hqn : q < bl.fIns.xs.length := by omega
  have hqa := hb.a q hqn
  rw [show ((q + 1 : Nat) : Int) - 1 = (q : Int) by omega]
  (repeat' (first | refine s_move ?_ | (refine k_C ?_; first | refine s_seq ?_ | refine s_region ?_ | refine s_skip ?_ | refine s_block ?_) | (refine k_E ?_; refine e_seq ?_)))
  refine s_fnn rfl (.inr ⟨_, _, _, rfl⟩) rfl ?_
  (repeat' (first | refine s_move ?_ | refine s_nil ?_ | (refine k_C ?_; first | refine s_region ?_ | refine s_ift rfl ?_) | (refine k_E ?_; refine e_seq ?_)))
  refine s_callV (L2 := [mp EB 3 m n2 (setP (liveB bl p (q + 1))), var 31 b3 bl]) [2] (captured := cap) rfl (hat q m n2 hqn (by omega)) rfl rfl (fun w1 f1 C => ⟨hL.ctx hRd C, C.map m⟩) ?_
  rintro r'' L' rfl
  rw [← atS_step (step := step) (s0 := s0) (out := p) hqn]
  (repeat' (first | refine s_move ?_ | refine s_nil ?_ | (refine k_C ?_; first | refine s_seq ?_ | refine s_region ?_) | (refine k_E ?_; refine e_seq ?_) | (refine k_load ?_; first | refine s_ldB rfl rfl ?_ | refine s_ldSF rfl rfl om rfl ?_) | (refine k_fld ?_; first | refine s_fld rfl ?_ | refine s_fldB rfl ?_) | (refine k_idx ?_; refine s_idxS rfl rfl om ?_)))
  refine s_delN rfl rfl ?_
  rw [setP_del]
  (repeat' (first | refine s_move ?_ | refine s_nil ?_ | (refine k_C ?_; first | refine s_seq ?_ | refine s_region ?_ | refine s_block ?_) | (refine k_E ?_; refine e_seq ?_) | (refine k_load ?_; first | refine s_ldB rfl rfl ?_ | refine s_ldSF rfl rfl om rfl ?_) | (refine k_fld ?_; first | refine s_fld rfl ?_ | refine s_fldB rfl ?_) | (refine k_idx ?_; refine s_idxS rfl rfl om ?_) | (refine k_call ?_; refine s_len rfl ?_)))
  refine s_loop (σ := Nat) (fun i => [(3, .pointer (some ⟨b3, 0, none⟩)), (2, .func (.func g) #[] cap.toArray), (7, .map (some m)), (11, .int .i64 (q : Int)), (60, .slice (nth bl.fIns.xs q).fArgs.A (nth bl.fIns.xs q).fArgs.xs.length (nth bl.fIns.xs q).fArgs.c), (61, .int .i64 (nth bl.fIns.xs q).fArgs.xs.length), (62, .int .i64 i)])
    (fun i => [mp EB 3 m (n2 + i) (setP (addL (fun j => liveB bl p (q + 1) j && !decide (j = (nth bl.fIns.xs q).fDst)) ((nth bl.fIns.xs q).fArgs.xs.take i))), var 31 b3 bl, I (atS step bl p s0 q)]) (fun i => i ≤ (nth bl.fIns.xs q).fArgs.xs.length) (fun i => (nth bl.fIns.xs q).fArgs.xs.length - i) 0 (by repeat (first | exact trivial | refine ⟨rfl, ?_⟩)) (Nat.zero_le _) ((PSub.take (L' := [mp EB 3 m n2 (setP fun j => liveB bl p (q + 1) j && !decide (j = (nth bl.fIns.xs q).fDst)), var 31 b3 bl, I (atS step bl p s0 q)]) [1, 1, 0] rfl).trans (PSub.eq (by simp only [List.take_zero, addL_nil, Nat.add_zero]))) ?_
  intro f i hi
  (repeat' (first | refine s_nil ?_ | (refine k_C ?_; first | refine s_seq ?_ | refine s_region ?_) | (refine k_E ?_; refine e_seq ?_) | (refine k_bin ?_; refine s_lss rfl rfl ?_)))
  (first | (refine k_C ?_; (refine s_ifd rfl ?_ ?_ <;> intro hc <;> try (exfalso; omega))))
  · have hin : i < (nth bl.fIns.xs q).fArgs.xs.length := by omega
    (repeat' (first | refine s_move ?_ | refine s_assign ?_ | refine s_nil ?_ | (refine k_C ?_; first | refine s_seq ?_ | refine s_region ?_ | refine s_skip ?_ | refine s_block ?_) | (refine k_E ?_; first | refine e_seq ?_ | refine e_bk ?_) | (refine k_load ?_; refine s_ldS rfl rfl om rfl ?_) | (refine k_bin ?_; refine s_add1 rfl rfl om ?_) | (refine k_idx ?_; refine s_idxS rfl rfl om ?_) | refine s_putW (yv := true) rfl rfl rfl trivial om ?_))
    refine e_lp (i + 1) (by repeat (first | exact trivial | refine ⟨rfl, ?_⟩)) (by show i + 1 ≤ _; omega) (by show _ - _ < _ - _; omega) (PSub.eq ?_)
    rw [setP_put, addL_put, takeN hin]; rfl
  have hiE : i = (nth bl.fIns.xs q).fArgs.xs.length := by omega
  subst hiE
  rw [List.take_length]
  (repeat' (first | refine s_move ?_ | refine s_assign ?_ | refine s_nil ?_ | (refine k_C ?_; first | refine s_region ?_ | refine s_exit ?_) | (refine k_E ?_; first | refine e_seq ?_ | refine e_seq_exit ?_ | refine e_bk_exit ?_ | refine e_bk ?_ | refine e_lp_exit ?_) | (refine k_bin ?_; refine s_sub64 rfl rfl om ?_)))
  refine e_lp (q, n2 + (nth bl.fIns.xs q).fArgs.xs.length) (by repeat (first | exact trivial | refine ⟨rfl, ?_⟩)) ⟨by show q ≤ _; omega, by show n2 + _ + 1000 * q ≤ _; omega⟩ (by show q < q + 1; omega) (PSub.eq ?_)
  rw [liveB_step hqn]; rfl
end Go.Proofs.Ytfplmdjlgjgbgaa
