/- Layer 7: once. -/
import Derived.Test.YtfplmdjlgjgbgaaS4
namespace Go.Proofs.Ytfplmdjlgjgbgaa
set_option linter.unusedVariables false
set_option linter.unusedSimpArgs false
open Go Go.RowKit

def madeAll (bs : List SsaBlock) : List Int := bs.flatMap madeB
def onceB (f : SsaFunc) : Bool := (madeAll f.fBlocks.xs).all (0 < ·) && decide (madeAll f.fBlocks.xs).Nodup
theorem madeAll_app (a b : List SsaBlock) : madeAll (a ++ b) = madeAll a ++ madeAll b := by simp [madeAll]
theorem madeB_wf {ok : FP} {w : World} {b : SsaBlock} (h : RdD ok w b) {x : Int} (hx : x ∈ madeB b) : RdD ok w x := by
  unfold madeB at hx
  rcases List.mem_append.1 hx with hx | hx
  · obtain ⟨k, hk, rfl⟩ := List.mem_iff_getElem.1 hx
    rw [← nth_get hk]; infer_instance
  · unfold dstsB7 at hx
    obtain ⟨y, hy, rfl⟩ := List.mem_map.1 (List.mem_filter.1 hx).1
    obtain ⟨k, hk, rfl⟩ := List.mem_iff_getElem.1 hy
    rw [← nth_get hk]; infer_instance
/-- Small enough. -/
structure FewF (f : SsaFunc) : Prop where
  b : f.fBlocks.xs.length ≤ 1000
  p : ∀ i, (nth f.fBlocks.xs i).fParams.xs.length ≤ 1000
  i : ∀ i, (nth f.fBlocks.xs i).fIns.xs.length ≤ 1000
  w : ∀ i, (nth f.fBlocks.xs i).fEnd.fWays.xs.length ≤ 1000
theorem dstsB7_len (is : List SsaIns) : (dstsB7 is).length ≤ is.length := by unfold dstsB7; exact Nat.le_trans (List.length_filter_le _ _) (by simp)

theorem once_split {f : SsaFunc} {i : Nat} (h : i < f.fBlocks.xs.length) : ∃ t, madeAll f.fBlocks.xs = madeAll (f.fBlocks.xs.take i) ++ (madeB (nth f.fBlocks.xs i) ++ t) := by
  refine ⟨madeAll (f.fBlocks.xs.drop (i + 1)), ?_⟩
  have e1 : f.fBlocks.xs = f.fBlocks.xs.take i ++ (nth f.fBlocks.xs i :: f.fBlocks.xs.drop (i + 1)) := by
    rw [nth_get h, ← List.drop_eq_getElem_cons h, List.take_append_drop]
  conv => lhs; rw [e1]
  rw [madeAll_app]; simp [madeAll]
theorem once_no {f : SsaFunc} {i j : Nat} (h : i < f.fBlocks.xs.length) (hj : j < (madeB (nth f.fBlocks.xs i)).length) {x : Int} (hx : nth (madeB (nth f.fBlocks.xs i)) j = x) (hbad : x ≤ 0 ∨ x ∈ madeAll (f.fBlocks.xs.take i) ++ (madeB (nth f.fBlocks.xs i)).take j) : onceB f = false := by
  obtain ⟨t, ht⟩ := once_split h
  have hs : madeB (nth f.fBlocks.xs i) = (madeB (nth f.fBlocks.xs i)).take j ++ (x :: (madeB (nth f.fBlocks.xs i)).drop (j + 1)) := by
    rw [← hx, nth_get hj, ← List.drop_eq_getElem_cons hj, List.take_append_drop]
  have ha : madeAll f.fBlocks.xs = (madeAll (f.fBlocks.xs.take i) ++ (madeB (nth f.fBlocks.xs i)).take j) ++ (x :: ((madeB (nth f.fBlocks.xs i)).drop (j + 1) ++ t)) := by
    rw [ht]
    conv => lhs; rw [hs]
    simp
  cases ho : onceB f with
  | false => rfl
  | true =>
    exfalso
    unfold onceB at ho
    rw [ha] at ho
    simp only [Bool.and_eq_true, decide_eq_true_eq, List.all_eq_true] at ho
    rcases hbad with hbad | hbad
    · have := ho.1 x (by simp)
      omega
    · exact (List.nodup_append.1 ho.2).2.2 x hbad x (by simp) rfl

set_option maxHeartbeats 2000000 in
theorem once_spec (f : SsaFunc) (hf : FewF f) : Spec Try.prog 31 [.agg (Enc.enc f).toArray] [] (fun ok w => RdD ok w f) fun r L' => r = .bool (onceB f) ∧ L' = [] := by
  refine spec_of Try.func31 rfl rfl fun w0 f0 hR => ?_
  have hb := hf.b
  (repeat' (first | refine s_move ?_ | refine s_assign ?_ | refine s_nil ?_ | (refine k_C ?_; first | refine s_seq ?_ | refine s_region ?_ | refine s_block ?_) | (refine k_E ?_; refine e_seq ?_) | (refine k_load ?_; refine s_ldB rfl rfl ?_) | (refine k_fld ?_; refine s_fldB rfl ?_) | (refine k_call ?_; refine s_len rfl ?_) | (refine s_box _ rfl ?_; intro b) | (refine s_mkmapB ?_; intro b)))
  rename_i b1
  obtain ⟨m, rfl⟩ : ∃ q, q = b := ⟨_, rfl⟩
  refine s_loop (σ := Nat × Nat) (fun s => [(3, .map (some m)), (13, .slice f.fBlocks.A f.fBlocks.xs.length f.fBlocks.c), (14, .int .i64 f.fBlocks.xs.length), (15, .int .i64 s.1)])
    (fun s => [mp EB 3 m s.2 (setF (madeAll (f.fBlocks.xs.take s.1)))]) (fun s => s.1 ≤ f.fBlocks.xs.length ∧ s.2 ≤ s.1 * 2000 ∧ (madeAll (f.fBlocks.xs.take s.1)).Nodup ∧ ∀ x ∈ madeAll (f.fBlocks.xs.take s.1), 0 < x) (fun s => f.fBlocks.xs.length - s.1) (0, 0) (by repeat (first | exact trivial | refine ⟨rfl, ?_⟩)) ⟨Nat.zero_le _, Nat.le_refl _, by simp [madeAll], by simp [madeAll]⟩ (PSub.take [0] ?_) ?_
  · show [mp EB _ m 0 _] = _
    rw [setF_nil]; simp [madeAll]
  rintro g ⟨i, N⟩ ⟨hi, hN, hnd, hpos⟩
  dsimp only at hi hN hnd hpos ⊢
  have hp := hf.p i
  have hq := hf.i i
  (repeat' (first | refine s_assign ?_ | refine s_nil ?_ | (refine k_C ?_; first | refine s_seq ?_ | refine s_region ?_ | refine s_skip ?_ | refine s_block ?_ | refine s_exit ?_ | refine s_ret ?_ | (refine s_ifd rfl ?_ ?_ <;> intro hc <;> try (exfalso; omega))) | (refine k_E ?_; first | refine e_seq ?_ | refine e_seq_exit ?_ | refine e_bk_exit ?_ | refine e_lp_exit ?_) | (refine k_load ?_; first | refine s_ldB rfl rfl ?_ | refine s_ldSA rfl rfl om rfl ?_) | (refine k_bin ?_; refine s_lss rfl rfl ?_) | (refine k_fld ?_; refine s_fldB rfl ?_) | (refine k_idx ?_; refine s_idxS rfl rfl om ?_) | (refine k_store ?_; refine s_stW _ rfl rfl ?_) | (refine s_alloc ?_; intro b)))
  · refine s_call0 (cloneI_spec (nth f.fBlocks.xs i).fParams (by omega)) rfl (fun w1 H => H.rdD (by infer_instance)) ?_
    rintro r L' ⟨A, c, rfl, rfl⟩
    (repeat' (first | refine s_move ?_ | refine s_assign ?_ | refine s_nil ?_ | (refine k_C ?_; first | refine s_seq ?_ | refine s_region ?_ | refine s_block ?_) | (refine k_E ?_; refine e_seq ?_) | (refine k_load ?_; refine s_ldB rfl rfl ?_) | (refine k_fld ?_; refine s_fldB rfl ?_) | (refine k_call ?_; refine s_len rfl ?_)))
    refine s_loop (σ := Nat × Option Addr × Nat × Nat × List Int) (fun s => [(3, .map (some m)), (13, .slice f.fBlocks.A f.fBlocks.xs.length f.fBlocks.c), (14, .int .i64 f.fBlocks.xs.length), (15, .int .i64 i), (6, .slice s.2.1 s.2.2.1 s.2.2.2.1), (23, .slice (nth f.fBlocks.xs i).fIns.A (nth f.fBlocks.xs i).fIns.xs.length (nth f.fBlocks.xs i).fIns.c), (24, .int .i64 (nth f.fBlocks.xs i).fIns.xs.length), (25, .int .i64 s.1)])
      (fun s => [own 3 s.2.1 s.2.2.1 s.2.2.2.1 s.2.2.2.2, mp EB 3 m N (setF (madeAll (f.fBlocks.xs.take i)))]) (fun s => s.1 ≤ (nth f.fBlocks.xs i).fIns.xs.length ∧ s.2.2.1 = s.2.2.2.2.length ∧ s.2.2.2.2 = (nth f.fBlocks.xs i).fParams.xs ++ dstsB7 ((nth f.fBlocks.xs i).fIns.xs.take s.1)) (fun s => (nth f.fBlocks.xs i).fIns.xs.length - s.1) (0, A, (nth f.fBlocks.xs i).fParams.xs.length, c, (nth f.fBlocks.xs i).fParams.xs) (by repeat (first | exact trivial | refine ⟨rfl, ?_⟩)) ⟨Nat.zero_le _, rfl, by simp [dstsB7]⟩ (PSub.take [0, 1] rfl) ?_
    rintro g2 ⟨k, A2, l, c2, xs⟩ ⟨hk, hl, hxs⟩
    dsimp only at hk hxs hl ⊢
    have hxl : xs.length ≤ 1000 + k := by
      rw [hxs, List.length_append]
      have := dstsB7_len ((nth f.fBlocks.xs i).fIns.xs.take k)
      rw [List.length_take] at this
      omega
    (repeat' (first | refine s_move ?_ | refine s_assign ?_ | refine s_nil ?_ | (refine k_C ?_; first | refine s_seq ?_ | refine s_region ?_ | refine s_skip ?_ | refine s_block ?_ | refine s_exit ?_ | (refine s_ifd rfl ?_ ?_ <;> intro hc <;> try (exfalso; omega)) | (refine s_ifn rfl ?_ ?_ <;> intro hc <;> try (exfalso; omega))) | (refine k_E ?_; first | refine e_seq ?_ | refine e_seq_exit ?_ | refine e_bk_exit ?_ | refine e_bk ?_ | refine e_lp_exit ?_) | (refine k_load ?_; first | refine s_ldB rfl rfl ?_ | refine s_ldSA rfl rfl om rfl ?_) | (refine k_bin ?_; first | refine s_lss rfl rfl ?_ | refine s_add1 rfl rfl om ?_ | refine s_neq rfl rfl ?_) | (refine k_fld ?_; refine s_fldB rfl ?_) | (refine k_idx ?_; refine s_idxS rfl rfl om ?_) | (refine k_store ?_; refine s_stW _ rfl rfl ?_) | (refine k_call ?_; refine s_len rfl ?_) | (refine s_alloc ?_; intro b) | (refine s_app1 _ (fun _ => rfl) rfl om ?_; intro v A c)))
    · rename_i hdst
      refine e_lp (k + 1, A, l + 1, c, xs ++ [(nth (nth f.fBlocks.xs i).fIns.xs k).fDst]) (by repeat (first | exact trivial | refine ⟨rfl, ?_⟩)) ⟨by show k + 1 ≤ _; omega, by simp [hl], ?_⟩ (by show _ - _ < _ - _; omega) (PSub.take [1, 1] rfl)
      show _ = _ ++ dstsB7 (_root_.List.take (k + 1) _)
      rw [← dstsB7_one (by omega) (by assumption), hxs, List.append_assoc]
    · refine e_lp (k + 1, A2, l, c2, xs) (by repeat (first | exact trivial | refine ⟨rfl, ?_⟩)) ⟨by show k + 1 ≤ _; omega, hl, ?_⟩ (by show _ - _ < _ - _; omega) (PSub.take [1, 1] rfl)
      show _ = _ ++ dstsB7 (_root_.List.take (k + 1) _)
      rw [← dstsB7_none (by omega) (by assumption), hxs]
    · have hk' : k = (nth f.fBlocks.xs i).fIns.xs.length := by omega
      subst hk'
      rw [List.take_length] at hxs
      change xs = madeB (nth f.fBlocks.xs i) at hxs
      subst hxs
      subst hl
      refine s_loop (σ := Nat × Nat) (fun s => [(3, .map (some m)), (13, .slice f.fBlocks.A f.fBlocks.xs.length f.fBlocks.c), (14, .int .i64 f.fBlocks.xs.length), (15, .int .i64 i), (38, .slice A2 (madeB (nth f.fBlocks.xs i)).length c2), (39, .int .i64 (madeB (nth f.fBlocks.xs i)).length), (40, .int .i64 s.1)])
        (fun s => [own 3 A2 (madeB (nth f.fBlocks.xs i)).length c2 (madeB (nth f.fBlocks.xs i)), mp EB 3 m s.2 (setF (madeAll (f.fBlocks.xs.take i) ++ (madeB (nth f.fBlocks.xs i)).take s.1))]) (fun s => s.1 ≤ (madeB (nth f.fBlocks.xs i)).length ∧ s.2 ≤ N + s.1 ∧ (madeAll (f.fBlocks.xs.take i) ++ (madeB (nth f.fBlocks.xs i)).take s.1).Nodup ∧ ∀ x ∈ madeAll (f.fBlocks.xs.take i) ++ (madeB (nth f.fBlocks.xs i)).take s.1, 0 < x) (fun s => (madeB (nth f.fBlocks.xs i)).length - s.1) (0, N) (by repeat (first | exact trivial | refine ⟨rfl, ?_⟩)) ⟨Nat.zero_le _, Nat.le_refl _, by simpa using hnd, by simpa using hpos⟩ (PSub.eq (by simp)) ?_
      rintro g3 ⟨j, M⟩ ⟨hj, hM, hnd2, hpos2⟩
      dsimp only at hj hM hnd2 hpos2 ⊢
      have hRj : RdD (okOf w0 f0) w0 (nth (madeB (nth f.fBlocks.xs i)) j) := by
        by_cases h : j < (madeB (nth f.fBlocks.xs i)).length
        · exact madeB_wf (by infer_instance) (nth_mem h)
        · rw [nth_out (by omega)]; exact ⟨Dp.dflt _ _⟩
      (repeat' (first | refine s_move ?_ | refine s_assign ?_ | refine s_nil ?_ | (refine k_C ?_; first | refine s_seq ?_ | refine s_region ?_ | refine s_skip ?_ | refine s_block ?_ | refine s_exit ?_ | refine s_ret ?_ | refine s_ift rfl ?_ | (refine s_ifd rfl ?_ ?_ <;> intro hc <;> try (exfalso; omega)) | (refine s_if rfl ?_ ?_ <;> intro hc)) | (refine k_E ?_; first | refine e_seq ?_ | refine e_seq_ret ?_ | refine e_seq_exit ?_ | refine e_bk_exit ?_ | refine e_bk_ret ?_ | refine e_bk ?_ | refine e_lp_ret ?_ | refine e_lp_exit ?_) | (refine k_load ?_; refine s_ld rfl om rfl ?_) | (refine k_bin ?_; first | refine s_lss rfl rfl ?_ | refine s_add1 rfl rfl om ?_ | refine s_leq rfl rfl ?_) | (refine k_idx ?_; refine s_idx rfl rfl om ?_) | (refine k_guard ?_; first | refine s_on rfl rfl ?_ | refine s_off rfl rfl rfl rfl ?_ | (refine s_casesd rfl rfl ?_ ?_ <;> intro hc <;> try (exfalso; omega))) | refine s_putW (yv := true) rfl rfl rfl trivial om ?_ | refine s_lookW rfl rfl ?_ | refine s_pick rfl ?_))
      · refine e_done rfl rfl _ (PSub.take [] rfl) ⟨?_, rfl⟩
        show Value.bool false = _
        rw [once_no (f := f) (i := i) (j := j) (by omega) (by omega) rfl (.inl (by omega))]
      · refine e_done rfl rfl _ (PSub.take [] rfl) ⟨?_, rfl⟩
        show Value.bool false = _
        rw [once_no (f := f) (i := i) (j := j) (by omega) (by omega) rfl (.inr (of_decide_eq_true (by rw [← setF_get]; exact hc)))]
      · have hnm : nth (madeB (nth f.fBlocks.xs i)) j ∉ madeAll (f.fBlocks.xs.take i) ++ (madeB (nth f.fBlocks.xs i)).take j := of_decide_eq_false (by rw [← setF_get]; exact hc)
        refine e_lp (j + 1, M + 1) (by repeat (first | exact trivial | refine ⟨rfl, ?_⟩)) ⟨by show j + 1 ≤ _; omega, by show M + 1 ≤ N + (j + 1); omega, ?_, ?_⟩ (by show _ - _ < _ - _; omega) (PSub.eq ?_)
        · show (_ ++ _root_.List.take (j + 1) _).Nodup
          rw [← take_nth (by omega), ← List.append_assoc, List.nodup_append]
          exact ⟨hnd2, by simp, fun a ha b hb e => hnm (by simp at hb; subst hb; exact e ▸ ha)⟩
        · show ∀ x ∈ _ ++ _root_.List.take (j + 1) _, 0 < x
          rw [← take_nth (by omega), ← List.append_assoc]
          intro x hx
          rcases List.mem_append.1 hx with hx | hx
          · exact hpos2 x hx
          · simp at hx; subst hx; omega
        · show [_, mp EB _ m (M + 1) _] = [_, mp EB _ m (M + 1) (setF (_ ++ _root_.List.take (j + 1) _))]
          rw [← take_nth (by omega), ← List.append_assoc, ← setF_put]
      · have hj' : j = (madeB (nth f.fBlocks.xs i)).length := by omega
        subst hj'
        have e1 : madeAll (f.fBlocks.xs.take i) ++ (madeB (nth f.fBlocks.xs i)).take (madeB (nth f.fBlocks.xs i)).length = madeAll (f.fBlocks.xs.take (i + 1)) := by
          rw [List.take_length, ← take_nth (by omega), madeAll_app]; simp [madeAll]
        rw [e1] at hnd2 hpos2 ⊢
        refine e_lp (i + 1, M) (by repeat (first | exact trivial | refine ⟨rfl, ?_⟩)) ⟨by show i + 1 ≤ _; omega, ?_, hnd2, hpos2⟩ (by show _ - _ < _ - _; omega) (PSub.take [1] rfl)
        show M ≤ (i + 1) * 2000
        have := dstsB7_len (nth f.fBlocks.xs i).fIns.xs
        have : (madeB (nth f.fBlocks.xs i)).length ≤ 2000 := by unfold madeB; rw [List.length_append]; omega
        omega
  · have hi' : i = f.fBlocks.xs.length := by omega
    subst hi'
    rw [List.take_length] at hnd hpos
    refine e_done rfl rfl _ (PSub.take [] rfl) ⟨?_, rfl⟩
    show Value.bool true = Value.bool _
    congr 1
    unfold onceB
    simp only [Bool.true_eq, Bool.and_eq_true, decide_eq_true_eq, List.all_eq_true]
    exact ⟨hpos, hnd⟩

def endN (k : Int) : Int := if k = 1 then 1 else if k = 2 then 2 else 0
def wayB (f : SsaFunc) (w : SsaEdge) : Bool := decide (1 ≤ w.fTo) && decide (w.fTo < f.fBlocks.xs.length) && decide (w.fArgs.xs.length = (nth f.fBlocks.xs w.fTo.toNat).fParams.xs.length)
def endP (e : SsaEnd) : Prop := (1 ≤ e.fKind ∧ e.fKind ≤ 4) ∧ (e.fWays.xs.length : Int) = endN e.fKind ∧ (e.fKind = 4 ↔ (e.fTrap = 1 ∨ e.fTrap = 2)) ∧ ((e.fKind = 2 ∨ e.fKind = 3) ↔ 0 < e.fVal) ∧ 0 ≤ e.fVal
instance (e : SsaEnd) : Decidable (endP e) := by unfold endP; infer_instance
def endB (e : SsaEnd) : Bool := decide (endP e)
def endsB (f : SsaFunc) (e : SsaEnd) : Bool := endB e && e.fWays.xs.all (wayB f)
set_option maxHeartbeats 2000000 in
theorem ends_spec (f : SsaFunc) (e : SsaEnd) (hw : e.fWays.xs.length ≤ 1000) : Spec Try.prog 32 [.agg (Enc.enc f).toArray, .agg (Enc.enc e).toArray] [] (fun ok w => RdD ok w f ∧ RdD ok w e) fun r L' => r = .bool (endsB f e) ∧ L' = [] := by
  refine spec_of Try.func32 rfl rfl fun w0 f0 ⟨hf, he⟩ => ?_
  (repeat' (first | refine s_assign ?_ | refine s_nil ?_ | (refine k_C ?_; first | refine s_seq ?_ | refine s_region ?_) | (refine k_E ?_; refine e_seq ?_) | (refine s_box _ rfl ?_; intro b) | (refine s_mkmapI ?_; intro b)))
  rename_i b2 b3
  obtain ⟨m, rfl⟩ : ∃ q, q = b := ⟨_, rfl⟩
  refine s_putI (k := 1) (yv := (1 : Int)) rfl rfl rfl ⟨by omega, by omega⟩ (by rfl) (by omega) ?_
  refine s_putI (k := 2) (yv := (2 : Int)) rfl rfl rfl ⟨by omega, by omega⟩ (by rfl) (by omega) ?_
  refine s_putI (k := 3) (yv := (0 : Int)) rfl rfl rfl ⟨by omega, by omega⟩ (by rfl) (by omega) ?_
  refine s_putI (k := 4) (yv := (0 : Int)) rfl rfl rfl ⟨by omega, by omega⟩ (by rfl) (by omega) ?_
  (repeat' (first | refine s_move ?_ | refine s_assign ?_ | refine s_nil ?_ | (refine k_C ?_; first | refine s_seq ?_ | refine s_region ?_) | (refine k_E ?_; refine e_seq ?_) | (refine k_load ?_; refine s_ldB rfl rfl ?_) | (refine k_fld ?_; refine s_fldB rfl ?_)))
  refine s_look_ok rfl rfl (RdD.int (ok := okOf w0 f0) (w := w0) (x := e.fKind) (by infer_instance)) ?_
  generalize hn : ((upd (upd (upd (upd (fun _ => none) 1 (some 1)) 2 (some 2)) 3 (some 0)) 4 (some (0 : Int)) e.fKind).getD _) = n
  generalize hk : (upd (upd (upd (upd (fun _ => none) 1 (some 1)) 2 (some 2)) 3 (some 0)) 4 (some (0 : Int)) e.fKind).isSome = kn
  have hn' : n = endN e.fKind := by
    rw [← hn]
    unfold upd endN
    by_cases h1 : e.fKind = 1
    · simp [h1]
    by_cases h2 : e.fKind = 2
    · simp [h2]
    by_cases h3 : e.fKind = 3
    · simp [h3]
    by_cases h4 : e.fKind = 4
    · simp [h4]
    simp [h1, h2, h3, h4]; rfl
  have hk' : kn = decide (1 ≤ e.fKind ∧ e.fKind ≤ 4) := by
    rw [← hk]
    unfold upd
    by_cases h1 : e.fKind = 1
    · simp [h1]
    by_cases h2 : e.fKind = 2
    · simp [h2]
    by_cases h3 : e.fKind = 3
    · simp [h3]
    by_cases h4 : e.fKind = 4
    · simp [h4]
    have : ¬ (1 ≤ e.fKind ∧ e.fKind ≤ 4) := by omega
    simp [h1, h2, h3, h4, this]
  clear hn hk
  subst hk'
  subst hn'
  (repeat' (first | refine s_move ?_ | refine s_assign ?_ | refine s_nil ?_ | (refine k_C ?_; first | refine s_seq ?_ | refine s_region ?_ | refine s_skip ?_ | refine s_block ?_ | refine s_ret ?_ | refine s_ift rfl ?_ | (refine s_ifd rfl ?_ ?_ <;> intro hc <;> try (exfalso; omega))) | (refine k_E ?_; first | refine e_seq ?_ | refine e_seq_ret ?_) | (refine k_load ?_; refine s_ldB rfl rfl ?_) | (refine k_bin ?_; first | refine s_lss rfl rfl ?_ | refine s_eql rfl rfl ?_ | refine s_neq rfl rfl ?_ | refine s_gtr rfl rfl ?_ | refine s_bne rfl rfl ?_) | (refine k_fld ?_; refine s_fldB rfl ?_) | (refine k_call ?_; refine s_len rfl ?_) | (refine k_guard ?_; first | refine s_on rfl rfl ?_ | refine s_off rfl rfl rfl rfl ?_ | refine s_offU rfl rfl rfl rfl ?_ | (refine s_casesd rfl rfl ?_ ?_ <;> intro hc <;> try (exfalso; omega)) | (refine s_casesn rfl rfl ?_ ?_ <;> intro hc <;> try (exfalso; omega))) | refine s_not rfl ?_ | refine s_pick rfl ?_ | refine s_extract rfl rfl ?_))
  all_goals try
    (refine e_done rfl rfl _ (PSub.take [] rfl) ⟨?_, rfl⟩
     show Value.bool false = Value.bool (endsB f e)
     have hb : ¬ endP e := by
       rintro ⟨p1, p2, p3, p4, p5⟩
       try simp only [Bool.not_eq_true', Bool.not_eq_false', decide_eq_true_eq, decide_eq_false_iff_not, decide_eq_decide, Bool.true_eq, Bool.false_eq] at *
       omega
     rw [endsB, endB, decide_eq_false hb]; rfl)
  all_goals
    have hP : endP e := by
      try simp only [Bool.not_eq_true', Bool.not_eq_false', decide_eq_true_eq, decide_eq_false_iff_not, decide_eq_decide, Bool.true_eq, Bool.false_eq] at *
      unfold endP
      omega
  all_goals
    refine s_loop (σ := Nat) (fun j => [(2, .pointer (some ⟨b2, 0, none⟩)), (62, .slice e.fWays.A e.fWays.xs.length e.fWays.c), (63, .int .i64 e.fWays.xs.length), (64, .int .i64 j)]) (fun j => [var 38 b2 f]) (fun j => j ≤ e.fWays.xs.length ∧ (e.fWays.xs.take j).all (wayB f) = true) (fun j => e.fWays.xs.length - j) 0 (by repeat (first | exact trivial | refine ⟨rfl, ?_⟩)) ⟨Nat.zero_le _, by simp⟩ (PSub.take [2] rfl) ?_
    rintro g j ⟨hj, hall⟩
    (repeat' (first | refine s_move ?_ | refine s_assign ?_ | refine s_nil ?_ | (refine k_C ?_; first | refine s_seq ?_ | refine s_region ?_ | refine s_stillP foI rfl (by kernel_rfl) ?_ | refine s_skip ?_ | refine s_block ?_ | refine s_exit ?_ | refine s_ret ?_ | refine s_ift rfl ?_ | (refine s_ifd rfl ?_ ?_ <;> intro hc <;> try (exfalso; omega)) | (refine s_ifn rfl ?_ ?_ <;> intro hc <;> try (exfalso; omega))) | (refine k_E ?_; first | refine e_seq ?_ | refine e_seq_ret ?_ | refine e_seq_exit ?_ | refine e_bk_exit ?_ | refine e_bk_ret ?_ | refine e_bk ?_ | refine e_lp_ret ?_ | refine e_lp_exit ?_) | (refine k_load ?_; first | refine s_ldB rfl rfl ?_ | refine s_ldS rfl rfl om rfl ?_ | refine s_ldSA rfl rfl om rfl ?_) | (refine k_bin ?_; first | refine s_lss rfl rfl ?_ | refine s_add1 rfl rfl om ?_ | refine s_neq rfl rfl ?_ | refine s_geq rfl rfl ?_) | (refine k_fld ?_; first | refine s_fld rfl ?_ | refine s_fldB rfl ?_) | (refine k_idx ?_; first | refine s_idxS rfl rfl om ?_ | refine s_idxSI rfl rfl om om ?_) | (refine k_store ?_; refine s_stW _ rfl rfl ?_) | (refine k_call ?_; refine s_len rfl ?_) | (refine k_guard ?_; first | refine s_on rfl rfl ?_ | refine s_off rfl rfl rfl rfl ?_ | (refine s_casesd rfl rfl ?_ ?_ <;> intro hc <;> try (exfalso; omega))) | (refine s_alloc ?_; intro b) | refine s_pick rfl ?_))
  all_goals first
    | (refine e_lp (j + 1) (by repeat (first | exact trivial | refine ⟨rfl, ?_⟩)) ⟨by omega, ?_⟩ (by show _ - _ < _ - _; omega) (PSub.take [1] rfl)
       have hw' : wayB f (nth e.fWays.xs j) = true := by
         simp only [wayB, Bool.and_eq_true, decide_eq_true_eq]; omega
       rw [← take_nth (by omega), List.all_append, hall]; simp [hw'])
    | (refine e_done rfl rfl _ (PSub.take [] rfl) ⟨?_, rfl⟩
       show Value.bool false = Value.bool (endsB f e)
       have hw' : wayB f (nth e.fWays.xs j) = false := by
         rw [Bool.eq_false_iff]; intro h; simp only [wayB, Bool.and_eq_true, decide_eq_true_eq] at h; omega
       rw [endsB, List.all_eq_false.2 ⟨_, nth_mem (i := j) (by omega), by simp [hw']⟩, Bool.and_false])
    | (refine e_done rfl rfl _ (PSub.take [] rfl) ⟨?_, rfl⟩
       show Value.bool true = Value.bool (endsB f e)
       have hj' : j = e.fWays.xs.length := by omega
       subst hj'
       rw [List.take_length] at hall
       rw [endsB, endB, decide_eq_true hP, hall]; rfl)
end Go.Proofs.Ytfplmdjlgjgbgaa
