/- Layer 7: once. -/
import Derived.Test.YtoknjpmlloikhaaS1
namespace Go.Proofs.Ytoknjpmlloikhaa
set_option linter.unusedVariables false
set_option linter.unusedSimpArgs false
open Go Go.RowKit

def madeAll (bs : List SsaBlock) : List Int := bs.flatMap madeB
def onceB (f : SsaFunc) : Bool := (madeAll f.fBlocks.xs).all (0 < ·) && decide (madeAll f.fBlocks.xs).Nodup
theorem madeAll_app (a b : List SsaBlock) : madeAll (a ++ b) = madeAll a ++ madeAll b := by simp [madeAll]
theorem madeB_wf {ok : FP} {w : World} {b : SsaBlock} (h : RdD ok w b) {x : Int} (hx : x ∈ madeB b) : RdD ok w x := by
  unfold madeB at hx
  rcases List.mem_append.1 hx with hx | hx
  · obtain ⟨k, hk, rfl⟩ := List.mem_iff_getElem.1 hx
    rw [← nth_get hk]; infer_instance
  · unfold dstsB7 at hx
    obtain ⟨y, hy, rfl⟩ := List.mem_map.1 (List.mem_filter.1 hx).1
    obtain ⟨k, hk, rfl⟩ := List.mem_iff_getElem.1 hy
    rw [← nth_get hk]; infer_instance
/-- Small enough. -/
structure FewF (f : SsaFunc) : Prop where
  b : f.fBlocks.xs.length ≤ 1000
  p : ∀ i, (nth f.fBlocks.xs i).fParams.xs.length ≤ 1000
  i : ∀ i, (nth f.fBlocks.xs i).fIns.xs.length ≤ 1000
  w : ∀ i, (nth f.fBlocks.xs i).fEnd.fWays.xs.length ≤ 1000
theorem dstsB7_len (is : List SsaIns) : (dstsB7 is).length ≤ is.length := by unfold dstsB7; exact Nat.le_trans (List.length_filter_le _ _) (by simp)

theorem once_split {f : SsaFunc} {i : Nat} (h : i < f.fBlocks.xs.length) : ∃ t, madeAll f.fBlocks.xs = madeAll (f.fBlocks.xs.take i) ++ (madeB (nth f.fBlocks.xs i) ++ t) := by
  refine ⟨madeAll (f.fBlocks.xs.drop (i + 1)), ?_⟩
  have e1 : f.fBlocks.xs = f.fBlocks.xs.take i ++ (nth f.fBlocks.xs i :: f.fBlocks.xs.drop (i + 1)) := by
    rw [nth_get h, ← List.drop_eq_getElem_cons h, List.take_append_drop]
  conv => lhs; rw [e1]
  rw [madeAll_app]; simp [madeAll]
theorem once_no {f : SsaFunc} {i j : Nat} (h : i < f.fBlocks.xs.length) (hj : j < (madeB (nth f.fBlocks.xs i)).length) {x : Int} (hx : nth (madeB (nth f.fBlocks.xs i)) j = x) (hbad : x ≤ 0 ∨ x ∈ madeAll (f.fBlocks.xs.take i) ++ (madeB (nth f.fBlocks.xs i)).take j) : onceB f = false := by
  obtain ⟨t, ht⟩ := once_split h
  have hs : madeB (nth f.fBlocks.xs i) = (madeB (nth f.fBlocks.xs i)).take j ++ (x :: (madeB (nth f.fBlocks.xs i)).drop (j + 1)) := by
    rw [← hx, nth_get hj, ← List.drop_eq_getElem_cons hj, List.take_append_drop]
  have ha : madeAll f.fBlocks.xs = (madeAll (f.fBlocks.xs.take i) ++ (madeB (nth f.fBlocks.xs i)).take j) ++ (x :: ((madeB (nth f.fBlocks.xs i)).drop (j + 1) ++ t)) := by
    rw [ht]
    conv => lhs; rw [hs]
    simp
  cases ho : onceB f with
  | false => rfl
  | true =>
    exfalso
    unfold onceB at ho
    rw [ha] at ho
    simp only [Bool.and_eq_true, decide_eq_true_eq, List.all_eq_true] at ho
    rcases hbad with hbad | hbad
    · have := ho.1 x (by simp)
      omega
    · exact (List.nodup_append.1 ho.2).2.2 x hbad x (by simp) rfl

set_option maxHeartbeats 2000000 in
theorem once_spec (f : SsaFunc) (hf : FewF f) : Spec Try.prog 19 [.agg (Enc.enc f).toArray] [] (fun ok w => RdD ok w f) fun r L' => r = .bool (onceB f) ∧ L' = [] := by
  refine spec_of Try.func19 rfl rfl fun w0 f0 hR => ?_
  have hb := hf.b
  (repeat' (first | refine s_move ?_ | refine s_assign ?_ | refine s_nil ?_ | (refine k_C ?_; first | refine s_seq ?_ | refine s_region ?_ | refine s_block ?_) | (refine k_E ?_; refine e_seq ?_) | (refine k_load ?_; refine s_ldB rfl rfl ?_) | (refine k_fld ?_; refine s_fldB rfl ?_) | (refine k_call ?_; refine s_len rfl ?_) | (refine s_box _ rfl ?_; intro b) | (refine s_mkmapB ?_; intro b)))
  rename_i b1
  obtain ⟨m, rfl⟩ : ∃ q, q = b := ⟨_, rfl⟩
  refine s_loop (σ := Nat × Nat) (fun s => [(3, .map (some m)), (13, .slice f.fBlocks.A f.fBlocks.xs.length f.fBlocks.c), (14, .int .i64 f.fBlocks.xs.length), (15, .int .i64 s.1)])
    (fun s => [mp EB 3 m s.2 (setF (madeAll (f.fBlocks.xs.take s.1)))]) (fun s => s.1 ≤ f.fBlocks.xs.length ∧ s.2 ≤ s.1 * 2000 ∧ (madeAll (f.fBlocks.xs.take s.1)).Nodup ∧ ∀ x ∈ madeAll (f.fBlocks.xs.take s.1), 0 < x) (fun s => f.fBlocks.xs.length - s.1) (0, 0) (by repeat (first | exact trivial | refine ⟨rfl, ?_⟩)) ⟨Nat.zero_le _, Nat.le_refl _, by simp [madeAll], by simp [madeAll]⟩ (PSub.take [0] ?_) ?_
  · show [mp EB _ m 0 _] = _
    rw [setF_nil]; simp [madeAll]
  rintro g ⟨i, N⟩ ⟨hi, hN, hnd, hpos⟩
  dsimp only at hi hN hnd hpos ⊢
  have hp := hf.p i
  have hq := hf.i i
  (repeat' (first | refine s_assign ?_ | refine s_nil ?_ | (refine k_C ?_; first | refine s_seq ?_ | refine s_region ?_ | refine s_skip ?_ | refine s_block ?_ | refine s_exit ?_ | refine s_ret ?_ | (refine s_ifd rfl ?_ ?_ <;> intro hc <;> try (exfalso; omega))) | (refine k_E ?_; first | refine e_seq ?_ | refine e_seq_exit ?_ | refine e_bk_exit ?_ | refine e_lp_exit ?_) | (refine k_load ?_; first | refine s_ldB rfl rfl ?_ | refine s_ldSA rfl rfl om rfl ?_) | (refine k_bin ?_; refine s_lss rfl rfl ?_) | (refine k_fld ?_; refine s_fldB rfl ?_) | (refine k_idx ?_; refine s_idxS rfl rfl om ?_) | (refine k_store ?_; refine s_stW _ rfl rfl ?_) | (refine s_alloc ?_; intro b)))
  · refine s_call0 (cloneI_spec (nth f.fBlocks.xs i).fParams (by omega)) rfl (fun w1 H => H.rdD (by infer_instance)) ?_
    rintro r L' ⟨A, c, rfl, rfl⟩
    (repeat' (first | refine s_move ?_ | refine s_assign ?_ | refine s_nil ?_ | (refine k_C ?_; first | refine s_seq ?_ | refine s_region ?_ | refine s_block ?_) | (refine k_E ?_; refine e_seq ?_) | (refine k_load ?_; refine s_ldB rfl rfl ?_) | (refine k_fld ?_; refine s_fldB rfl ?_) | (refine k_call ?_; refine s_len rfl ?_)))
    refine s_loop (σ := Nat × Option Addr × Nat × Nat × List Int) (fun s => [(3, .map (some m)), (13, .slice f.fBlocks.A f.fBlocks.xs.length f.fBlocks.c), (14, .int .i64 f.fBlocks.xs.length), (15, .int .i64 i), (6, .slice s.2.1 s.2.2.1 s.2.2.2.1), (23, .slice (nth f.fBlocks.xs i).fIns.A (nth f.fBlocks.xs i).fIns.xs.length (nth f.fBlocks.xs i).fIns.c), (24, .int .i64 (nth f.fBlocks.xs i).fIns.xs.length), (25, .int .i64 s.1)])
      (fun s => [own 3 s.2.1 s.2.2.1 s.2.2.2.1 s.2.2.2.2, mp EB 3 m N (setF (madeAll (f.fBlocks.xs.take i)))]) (fun s => s.1 ≤ (nth f.fBlocks.xs i).fIns.xs.length ∧ s.2.2.1 = s.2.2.2.2.length ∧ s.2.2.2.2 = (nth f.fBlocks.xs i).fParams.xs ++ dstsB7 ((nth f.fBlocks.xs i).fIns.xs.take s.1)) (fun s => (nth f.fBlocks.xs i).fIns.xs.length - s.1) (0, A, (nth f.fBlocks.xs i).fParams.xs.length, c, (nth f.fBlocks.xs i).fParams.xs) (by repeat (first | exact trivial | refine ⟨rfl, ?_⟩)) ⟨Nat.zero_le _, rfl, by simp [dstsB7]⟩ (PSub.take [0, 1] rfl) ?_
    rintro g2 ⟨k, A2, l, c2, xs⟩ ⟨hk, hl, hxs⟩
    dsimp only at hk hxs hl ⊢
    have hxl : xs.length ≤ 1000 + k := by
      rw [hxs, List.length_append]
      have := dstsB7_len ((nth f.fBlocks.xs i).fIns.xs.take k)
      rw [List.length_take] at this
      omega
    (repeat' (first | refine s_move ?_ | refine s_assign ?_ | refine s_nil ?_ | (refine k_C ?_; first | refine s_seq ?_ | refine s_region ?_ | refine s_skip ?_ | refine s_block ?_ | refine s_exit ?_ | (refine s_ifd rfl ?_ ?_ <;> intro hc <;> try (exfalso; omega)) | (refine s_ifn rfl ?_ ?_ <;> intro hc <;> try (exfalso; omega))) | (refine k_E ?_; first | refine e_seq ?_ | refine e_seq_exit ?_ | refine e_bk_exit ?_ | refine e_bk ?_ | refine e_lp_exit ?_) | (refine k_load ?_; first | refine s_ldB rfl rfl ?_ | refine s_ldSA rfl rfl om rfl ?_) | (refine k_bin ?_; first | refine s_lss rfl rfl ?_ | refine s_add1 rfl rfl om ?_ | refine s_neq rfl rfl ?_) | (refine k_fld ?_; refine s_fldB rfl ?_) | (refine k_idx ?_; refine s_idxS rfl rfl om ?_) | (refine k_store ?_; refine s_stW _ rfl rfl ?_) | (refine k_call ?_; refine s_len rfl ?_) | (refine s_alloc ?_; intro b) | (refine s_app1 _ (fun _ => rfl) rfl om ?_; intro v A c)))
    · rename_i hdst
      refine e_lp (k + 1, A, l + 1, c, xs ++ [(nth (nth f.fBlocks.xs i).fIns.xs k).fDst]) (by repeat (first | exact trivial | refine ⟨rfl, ?_⟩)) ⟨by show k + 1 ≤ _; omega, by simp [hl], ?_⟩ (by show _ - _ < _ - _; omega) (PSub.take [1, 1] rfl)
      show _ = _ ++ dstsB7 (_root_.List.take (k + 1) _)
      rw [← dstsB7_one (by omega) (by assumption), hxs, List.append_assoc]
    · refine e_lp (k + 1, A2, l, c2, xs) (by repeat (first | exact trivial | refine ⟨rfl, ?_⟩)) ⟨by show k + 1 ≤ _; omega, hl, ?_⟩ (by show _ - _ < _ - _; omega) (PSub.take [1, 1] rfl)
      show _ = _ ++ dstsB7 (_root_.List.take (k + 1) _)
      rw [← dstsB7_none (by omega) (by assumption), hxs]
    · have hk' : k = (nth f.fBlocks.xs i).fIns.xs.length := by omega
      subst hk'
      rw [List.take_length] at hxs
      change xs = madeB (nth f.fBlocks.xs i) at hxs
      subst hxs
      subst hl
      refine s_loop (σ := Nat × Nat) (fun s => [(3, .map (some m)), (13, .slice f.fBlocks.A f.fBlocks.xs.length f.fBlocks.c), (14, .int .i64 f.fBlocks.xs.length), (15, .int .i64 i), (38, .slice A2 (madeB (nth f.fBlocks.xs i)).length c2), (39, .int .i64 (madeB (nth f.fBlocks.xs i)).length), (40, .int .i64 s.1)])
        (fun s => [own 3 A2 (madeB (nth f.fBlocks.xs i)).length c2 (madeB (nth f.fBlocks.xs i)), mp EB 3 m s.2 (setF (madeAll (f.fBlocks.xs.take i) ++ (madeB (nth f.fBlocks.xs i)).take s.1))]) (fun s => s.1 ≤ (madeB (nth f.fBlocks.xs i)).length ∧ s.2 ≤ N + s.1 ∧ (madeAll (f.fBlocks.xs.take i) ++ (madeB (nth f.fBlocks.xs i)).take s.1).Nodup ∧ ∀ x ∈ madeAll (f.fBlocks.xs.take i) ++ (madeB (nth f.fBlocks.xs i)).take s.1, 0 < x) (fun s => (madeB (nth f.fBlocks.xs i)).length - s.1) (0, N) (by repeat (first | exact trivial | refine ⟨rfl, ?_⟩)) ⟨Nat.zero_le _, Nat.le_refl _, by simpa using hnd, by simpa using hpos⟩ (PSub.eq (by simp)) ?_
      rintro g3 ⟨j, M⟩ ⟨hj, hM, hnd2, hpos2⟩
      dsimp only at hj hM hnd2 hpos2 ⊢
      have hRj : RdD (okOf w0 f0) w0 (nth (madeB (nth f.fBlocks.xs i)) j) := by
        by_cases h : j < (madeB (nth f.fBlocks.xs i)).length
        · exact madeB_wf (by infer_instance) (nth_mem h)
        · rw [nth_out (by omega)]; exact ⟨Dp.dflt _ _⟩
      (repeat' (first | refine s_move ?_ | refine s_assign ?_ | refine s_nil ?_ | (refine k_C ?_; first | refine s_seq ?_ | refine s_region ?_ | refine s_skip ?_ | refine s_block ?_ | refine s_exit ?_ | refine s_ret ?_ | refine s_ift rfl ?_ | (refine s_ifd rfl ?_ ?_ <;> intro hc <;> try (exfalso; omega)) | (refine s_if rfl ?_ ?_ <;> intro hc)) | (refine k_E ?_; first | refine e_seq ?_ | refine e_seq_ret ?_ | refine e_seq_exit ?_ | refine e_bk_exit ?_ | refine e_bk_ret ?_ | refine e_bk ?_ | refine e_lp_ret ?_ | refine e_lp_exit ?_) | (refine k_load ?_; refine s_ld rfl om rfl ?_) | (refine k_bin ?_; first | refine s_lss rfl rfl ?_ | refine s_add1 rfl rfl om ?_ | refine s_leq rfl rfl ?_) | (refine k_idx ?_; refine s_idx rfl rfl om ?_) | (refine k_guard ?_; first | refine s_on rfl rfl ?_ | refine s_off rfl rfl rfl rfl ?_ | (refine s_casesd rfl rfl ?_ ?_ <;> intro hc <;> try (exfalso; omega))) | refine s_putW (yv := true) rfl rfl rfl trivial om ?_ | refine s_lookW rfl rfl ?_ | refine s_pick rfl ?_))
      · refine e_done rfl rfl _ (PSub.take [] rfl) ⟨?_, rfl⟩
        show Value.bool false = _
        rw [once_no (f := f) (i := i) (j := j) (by omega) (by omega) rfl (.inl (by omega))]
      · refine e_done rfl rfl _ (PSub.take [] rfl) ⟨?_, rfl⟩
        show Value.bool false = _
        rw [once_no (f := f) (i := i) (j := j) (by omega) (by omega) rfl (.inr (of_decide_eq_true (by rw [← setF_get]; exact hc)))]
      · have hnm : nth (madeB (nth f.fBlocks.xs i)) j ∉ madeAll (f.fBlocks.xs.take i) ++ (madeB (nth f.fBlocks.xs i)).take j := of_decide_eq_false (by rw [← setF_get]; exact hc)
        refine e_lp (j + 1, M + 1) (by repeat (first | exact trivial | refine ⟨rfl, ?_⟩)) ⟨by show j + 1 ≤ _; omega, by show M + 1 ≤ N + (j + 1); omega, ?_, ?_⟩ (by show _ - _ < _ - _; omega) (PSub.eq ?_)
        · show (_ ++ _root_.List.take (j + 1) _).Nodup
          rw [← take_nth (by omega), ← List.append_assoc, List.nodup_append]
          exact ⟨hnd2, by simp, fun a ha b hb e => hnm (by simp at hb; subst hb; exact e ▸ ha)⟩
        · show ∀ x ∈ _ ++ _root_.List.take (j + 1) _, 0 < x
          rw [← take_nth (by omega), ← List.append_assoc]
          intro x hx
          rcases List.mem_append.1 hx with hx | hx
          · exact hpos2 x hx
          · simp at hx; subst hx; omega
        · show [_, mp EB _ m (M + 1) _] = [_, mp EB _ m (M + 1) (setF (_ ++ _root_.List.take (j + 1) _))]
          rw [← take_nth (by omega), ← List.append_assoc, ← setF_put]
      · have hj' : j = (madeB (nth f.fBlocks.xs i)).length := by omega
        subst hj'
        have e1 : madeAll (f.fBlocks.xs.take i) ++ (madeB (nth f.fBlocks.xs i)).take (madeB (nth f.fBlocks.xs i)).length = madeAll (f.fBlocks.xs.take (i + 1)) := by
          rw [List.take_length, ← take_nth (by omega), madeAll_app]; simp [madeAll]
        rw [e1] at hnd2 hpos2 ⊢
        refine e_lp (i + 1, M) (by repeat (first | exact trivial | refine ⟨rfl, ?_⟩)) ⟨by show i + 1 ≤ _; omega, ?_, hnd2, hpos2⟩ (by show _ - _ < _ - _; omega) (PSub.take [1] rfl)
        show M ≤ (i + 1) * 2000
        have := dstsB7_len (nth f.fBlocks.xs i).fIns.xs
        have : (madeB (nth f.fBlocks.xs i)).length ≤ 2000 := by unfold madeB; rw [List.length_append]; omega
        omega
  · have hi' : i = f.fBlocks.xs.length := by omega
    subst hi'
    rw [List.take_length] at hnd hpos
    refine e_done rfl rfl _ (PSub.take [] rfl) ⟨?_, rfl⟩
    show Value.bool true = Value.bool _
    congr 1
    unfold onceB
    simp only [Bool.true_eq, Bool.and_eq_true, decide_eq_true_eq, List.all_eq_true]
    exact ⟨hpos, hnd⟩

def endN (k : Int) : Int := if k = 1 then 1 else if k = 2 then 2 else 0
def wayB (f : SsaFunc) (w : SsaEdge) : Bool := decide (1 ≤ w.fTo) && decide (w.fTo < f.fBlocks.xs.length) && decide (w.fArgs.xs.length = (nth f.fBlocks.xs w.fTo.toNat).fParams.xs.length)
def endP (e : SsaEnd) : Prop := (1 ≤ e.fKind ∧ e.fKind ≤ 4) ∧ (e.fWays.xs.length : Int) = endN e.fKind ∧ (e.fKind = 4 ↔ (e.fTrap = 1 ∨ e.fTrap = 2)) ∧ ((e.fKind = 2 ∨ e.fKind = 3) ↔ 0 < e.fVal) ∧ 0 ≤ e.fVal
instance (e : SsaEnd) : Decidable (endP e) := by unfold endP; infer_instance
def endB (e : SsaEnd) : Bool := decide (endP e)
def endsB (f : SsaFunc) (e : SsaEnd) : Bool := endB e && e.fWays.xs.all (wayB f)
set_option maxHeartbeats 2000000 in
theorem ends_spec (f : SsaFunc) (e : SsaEnd) (hw : e.fWays.xs.length ≤ 1000) : Spec Try.prog 20 [.agg (Enc.enc f).toArray, .agg (Enc.enc e).toArray] [] (fun ok w => RdD ok w f ∧ RdD ok w e) fun r L' => r = .bool (endsB f e) ∧ L' = [] := by
  refine spec_of Try.func20 rfl rfl fun w0 f0 ⟨hf, he⟩ => ?_
  (repeat' (first | refine s_assign ?_ | refine s_nil ?_ | (refine k_C ?_; first | refine s_seq ?_ | refine s_region ?_) | (refine k_E ?_; refine e_seq ?_) | (refine s_box _ rfl ?_; intro b) | (refine s_mkmapI ?_; intro b)))
  rename_i b2 b3
  obtain ⟨m, rfl⟩ : ∃ q, q = b := ⟨_, rfl⟩
  refine s_putI (k := 1) (yv := (1 : Int)) rfl rfl rfl ⟨by omega, by omega⟩ (by rfl) (by omega) ?_
  refine s_putI (k := 2) (yv := (2 : Int)) rfl rfl rfl ⟨by omega, by omega⟩ (by rfl) (by omega) ?_
  refine s_putI (k := 3) (yv := (0 : Int)) rfl rfl rfl ⟨by omega, by omega⟩ (by rfl) (by omega) ?_
  refine s_putI (k := 4) (yv := (0 : Int)) rfl rfl rfl ⟨by omega, by omega⟩ (by rfl) (by omega) ?_
  (repeat' (first | refine s_move ?_ | refine s_assign ?_ | refine s_nil ?_ | (refine k_C ?_; first | refine s_seq ?_ | refine s_region ?_) | (refine k_E ?_; refine e_seq ?_) | (refine k_load ?_; refine s_ldB rfl rfl ?_) | (refine k_fld ?_; refine s_fldB rfl ?_)))
  refine s_look_ok rfl rfl (RdD.int (ok := okOf w0 f0) (w := w0) (x := e.fKind) (by infer_instance)) ?_
  generalize hn : ((upd (upd (upd (upd (fun _ => none) 1 (some 1)) 2 (some 2)) 3 (some 0)) 4 (some (0 : Int)) e.fKind).getD _) = n
  generalize hk : (upd (upd (upd (upd (fun _ => none) 1 (some 1)) 2 (some 2)) 3 (some 0)) 4 (some (0 : Int)) e.fKind).isSome = kn
  have hn' : n = endN e.fKind := by
    rw [← hn]
    unfold upd endN
    by_cases h1 : e.fKind = 1
    · simp [h1]
    by_cases h2 : e.fKind = 2
    · simp [h2]
    by_cases h3 : e.fKind = 3
    · simp [h3]
    by_cases h4 : e.fKind = 4
    · simp [h4]
    simp [h1, h2, h3, h4]; rfl
  have hk' : kn = decide (1 ≤ e.fKind ∧ e.fKind ≤ 4) := by
    rw [← hk]
    unfold upd
    by_cases h1 : e.fKind = 1
    · simp [h1]
    by_cases h2 : e.fKind = 2
    · simp [h2]
    by_cases h3 : e.fKind = 3
    · simp [h3]
    by_cases h4 : e.fKind = 4
    · simp [h4]
    have : ¬ (1 ≤ e.fKind ∧ e.fKind ≤ 4) := by omega
    simp [h1, h2, h3, h4, this]
  clear hn hk
  subst hk'
  subst hn'
  (repeat' (first | refine s_move ?_ | refine s_assign ?_ | refine s_nil ?_ | (refine k_C ?_; first | refine s_seq ?_ | refine s_region ?_ | refine s_skip ?_ | refine s_block ?_ | refine s_ret ?_ | refine s_ift rfl ?_ | (refine s_ifd rfl ?_ ?_ <;> intro hc <;> try (exfalso; omega))) | (refine k_E ?_; first | refine e_seq ?_ | refine e_seq_ret ?_) | (refine k_load ?_; refine s_ldB rfl rfl ?_) | (refine k_bin ?_; first | refine s_lss rfl rfl ?_ | refine s_eql rfl rfl ?_ | refine s_neq rfl rfl ?_ | refine s_gtr rfl rfl ?_ | refine s_bne rfl rfl ?_) | (refine k_fld ?_; refine s_fldB rfl ?_) | (refine k_call ?_; refine s_len rfl ?_) | (refine k_guard ?_; first | refine s_on rfl rfl ?_ | refine s_off rfl rfl rfl rfl ?_ | refine s_offU rfl rfl rfl rfl ?_ | (refine s_casesd rfl rfl ?_ ?_ <;> intro hc <;> try (exfalso; omega)) | (refine s_casesn rfl rfl ?_ ?_ <;> intro hc <;> try (exfalso; omega))) | refine s_not rfl ?_ | refine s_pick rfl ?_ | refine s_extract rfl rfl ?_))
  all_goals try
    (refine e_done rfl rfl _ (PSub.take [] rfl) ⟨?_, rfl⟩
     show Value.bool false = Value.bool (endsB f e)
     have hb : ¬ endP e := by
       rintro ⟨p1, p2, p3, p4, p5⟩
       try simp only [Bool.not_eq_true', Bool.not_eq_false', decide_eq_true_eq, decide_eq_false_iff_not, decide_eq_decide, Bool.true_eq, Bool.false_eq] at *
       omega
     rw [endsB, endB, decide_eq_false hb]; rfl)
  all_goals
    have hP : endP e := by
      try simp only [Bool.not_eq_true', Bool.not_eq_false', decide_eq_true_eq, decide_eq_false_iff_not, decide_eq_decide, Bool.true_eq, Bool.false_eq] at *
      unfold endP
      omega
  all_goals
    refine s_loop (σ := Nat) (fun j => [(2, .pointer (some ⟨b2, 0, none⟩)), (62, .slice e.fWays.A e.fWays.xs.length e.fWays.c), (63, .int .i64 e.fWays.xs.length), (64, .int .i64 j)]) (fun j => [var 63 b2 f]) (fun j => j ≤ e.fWays.xs.length ∧ (e.fWays.xs.take j).all (wayB f) = true) (fun j => e.fWays.xs.length - j) 0 (by repeat (first | exact trivial | refine ⟨rfl, ?_⟩)) ⟨Nat.zero_le _, by simp⟩ (PSub.take [2] rfl) ?_
    rintro g j ⟨hj, hall⟩
    (repeat' (first | refine s_move ?_ | refine s_assign ?_ | refine s_nil ?_ | (refine k_C ?_; first | refine s_seq ?_ | refine s_region ?_ | refine s_stillP foI rfl (by kernel_rfl) ?_ | refine s_skip ?_ | refine s_block ?_ | refine s_exit ?_ | refine s_ret ?_ | refine s_ift rfl ?_ | (refine s_ifd rfl ?_ ?_ <;> intro hc <;> try (exfalso; omega)) | (refine s_ifn rfl ?_ ?_ <;> intro hc <;> try (exfalso; omega))) | (refine k_E ?_; first | refine e_seq ?_ | refine e_seq_ret ?_ | refine e_seq_exit ?_ | refine e_bk_exit ?_ | refine e_bk_ret ?_ | refine e_bk ?_ | refine e_lp_ret ?_ | refine e_lp_exit ?_) | (refine k_load ?_; first | refine s_ldB rfl rfl ?_ | refine s_ldS rfl rfl om rfl ?_ | refine s_ldSA rfl rfl om rfl ?_) | (refine k_bin ?_; first | refine s_lss rfl rfl ?_ | refine s_add1 rfl rfl om ?_ | refine s_neq rfl rfl ?_ | refine s_geq rfl rfl ?_) | (refine k_fld ?_; first | refine s_fld rfl ?_ | refine s_fldB rfl ?_) | (refine k_idx ?_; first | refine s_idxS rfl rfl om ?_ | refine s_idxSI rfl rfl om om ?_) | (refine k_store ?_; refine s_stW _ rfl rfl ?_) | (refine k_call ?_; refine s_len rfl ?_) | (refine k_guard ?_; first | refine s_on rfl rfl ?_ | refine s_off rfl rfl rfl rfl ?_ | (refine s_casesd rfl rfl ?_ ?_ <;> intro hc <;> try (exfalso; omega))) | (refine s_alloc ?_; intro b) | refine s_pick rfl ?_))
  all_goals first
    | (refine e_lp (j + 1) (by repeat (first | exact trivial | refine ⟨rfl, ?_⟩)) ⟨by omega, ?_⟩ (by show _ - _ < _ - _; omega) (PSub.take [1] rfl)
       have hw' : wayB f (nth e.fWays.xs j) = true := by
         simp only [wayB, Bool.and_eq_true, decide_eq_true_eq]; omega
       rw [← take_nth (by omega), List.all_append, hall]; simp [hw'])
    | (refine e_done rfl rfl _ (PSub.take [] rfl) ⟨?_, rfl⟩
       show Value.bool false = Value.bool (endsB f e)
       have hw' : wayB f (nth e.fWays.xs j) = false := by
         rw [Bool.eq_false_iff]; intro h; simp only [wayB, Bool.and_eq_true, decide_eq_true_eq] at h; omega
       rw [endsB, List.all_eq_false.2 ⟨_, nth_mem (i := j) (by omega), by simp [hw']⟩, Bool.and_false])
    | (refine e_done rfl rfl _ (PSub.take [] rfl) ⟨?_, rfl⟩
       show Value.bool true = Value.bool (endsB f e)
       have hj' : j = e.fWays.xs.length := by omega
       subst hj'
       rw [List.take_length] at hall
       rw [endsB, endB, decide_eq_true hP, hall]; rfl)
section
open Go Go.RowKit

section
variable {P : Program} {n : Nat} {w0 w : World} {f0 : FP} {QC : Exit → Fr → World → Prop} {f : Fr} {L : List HP} {t ty : TypeId} {pos : String} {after : Array Edge}
variable {α : Type} {I : Enc α} {sz bytes : Nat}
/-- A region in drawn order: what only reads, one block that is laid beside it, and behind them a chain. -/
theorem s_mixA {id : Nat} {l : List Oper} {F : Fr} {d : Tmp} (N : Nat) (rs : List Nat) (k : Nat) [hE : Elt P t α I sz bytes] (hk : opsAt l [k] = [⟨some d, .alloc t, ty, pos, after, none⟩]) (hm : P.follows .mixedOrders = true) (hB : mixB .any n l N rs [k] = true)
    (hread : sO P n w0 f0 l.toArray true (opsAt l rs) (QCF F) f L) (hrest : ∀ b, sO P n w0 f0 l.toArray false (l.drop N) QC (up F d (.pointer (some ⟨b, 0, none⟩))) (var (I := I) t b I.dflt :: L)) (hd : Nat.blt d n = true := by rfl) : sC P n w0 f0 (.region id l.toArray true) QC f L := by
  intro w H
  refine wC_mix (J := fun w' => St w0 f0 L w' ∨ ∃ X, St w0 f0 (X :: L) w') N rs [k] F hm hB (.inl (H.idle (Step.drew w _))) (fun w' H' => ?_) ?_
  · rcases H' with H' | ⟨X, H'⟩
    · exact hread w' H'
    · exact hread w' (H'.drop 0)
  · rw [hk]
    obtain ⟨zv, hTI, hz⟩ := hE.ex
    simp only [wJ]
    refine o_alloc hTI.zero (H.idle (Step.drew w _)) (fun b w' H' => ?_) hd
    rw [hz] at H'
    refine o_nil ⟨.inr ⟨_, H'.head⟩, ?_⟩
    exact hrest b w' H'.head
end

def goW7 (n : Nat) : List SsaEdge → List Bool → List Int → List Bool × List Int
  | [], out, todo => (out, todo)
  | w :: ws, out, todo => if 0 ≤ w.fTo ∧ w.fTo < n ∧ nth out w.fTo.toNat = false then goW7 n ws (out.set w.fTo.toNat true) (todo ++ [w.fTo]) else goW7 n ws out todo
def cntF7 (out : List Bool) : Nat := out.countP (! ·)
def reachL7 (f : SsaFunc) : Nat → List Bool → List Int → List Bool
  | k + 1, out, t :: todo => let s := goW7 f.fBlocks.xs.length (nth f.fBlocks.xs t.toNat).fEnd.fWays.xs out todo; reachL7 f k s.1 s.2
  | _, out, _ => out
def reachB7 (f : SsaFunc) : List Bool :=
  if f.fBlocks.xs.length = 0 then [] else reachL7 f f.fBlocks.xs.length ((List.replicate f.fBlocks.xs.length false).set 0 true) [0]
theorem goW7_app {n : Nat} {a b : List SsaEdge} {out : List Bool} {todo : List Int} : goW7 n (a ++ b) out todo = goW7 n b (goW7 n a out todo).1 (goW7 n a out todo).2 := by
  induction a generalizing out todo with
  | nil => rfl
  | cons w a ih =>
    simp only [List.cons_append, goW7]
    split <;> exact ih
theorem cntF7_set {out : List Bool} {i : Nat} (h : i < out.length) (h0 : nth out i = false) : cntF7 (out.set i true) + 1 = cntF7 out := by
  unfold cntF7
  rw [nth_get h] at h0
  rw [List.countP_set h]
  have : 0 < out.countP (! ·) := List.countP_pos_iff.2 ⟨out[i], List.getElem_mem h, by simp [h0]⟩
  simp [h0]
  omega
theorem cntF7_rep {n : Nat} : cntF7 (List.replicate n false) = n := by
  unfold cntF7
  rw [List.countP_replicate]; rfl

set_option maxHeartbeats 2000000 in
theorem reach7_spec (f : SsaFunc) (hf : FewF f) : Spec Try.prog 34 [.agg (Enc.enc f).toArray] [] (fun ok w => RdD ok w f) fun r L' => ∃ A c, r = .slice A f.fBlocks.xs.length c ∧ L' = [own 4 A f.fBlocks.xs.length c (reachB7 f)] := by
  refine spec_of Try.func34 rfl rfl fun w0 f0 hR => ?_
  have hb := hf.b
  (repeat' (first | refine s_move ?_ | refine s_assign ?_ | refine s_nil ?_ | (refine k_C ?_; first | refine s_seq ?_ | refine s_region ?_ | refine s_skip ?_ | refine s_block ?_ | refine s_ret ?_ | (refine s_ifd rfl ?_ ?_ <;> intro hc <;> try (exfalso; omega))) | (refine k_E ?_; first | refine e_seq ?_ | refine e_seq_ret ?_) | (refine k_load ?_; refine s_ldB rfl rfl ?_) | (refine k_bin ?_; refine s_eql rfl rfl ?_) | (refine k_fld ?_; refine s_fldB rfl ?_) | (refine k_idx ?_; refine s_idx rfl rfl om ?_) | (refine k_store ?_; refine s_st _ rfl rfl om ?_) | (refine k_call ?_; refine s_len rfl ?_) | (refine s_box _ rfl ?_; intro b) | (refine s_make rfl rfl om ?_; intro b) | (refine s_lit [_] rfl (by decide) rfl ?_; intro b)))
  · have h0 : f.fBlocks.xs = [] := List.eq_nil_of_length_eq_zero (by omega)
    refine e_done rfl rfl _ (PSub.take [0] rfl) ⟨_, _, rfl, ?_⟩
    rw [reachB7, if_pos (by omega), h0]; rfl
  rename_i b1 bo
  obtain ⟨b4, rfl⟩ : ∃ q, q = b := ⟨_, rfl⟩
  refine s_loop (σ := List Bool × List Int × Option Addr × Nat × Nat) (fun s => [(1, .pointer (some ⟨b1, 0, none⟩)), (3, .slice (some ⟨bo, 0, none⟩) f.fBlocks.xs.length f.fBlocks.xs.length), (4, .slice s.2.2.1 s.2.2.2.1 s.2.2.2.2)])
    (fun s => [own 3 s.2.2.1 s.2.2.2.1 s.2.2.2.2 s.2.1, own 4 (some ⟨bo, 0, none⟩) f.fBlocks.xs.length f.fBlocks.xs.length s.1, var 63 b1 f])
    (fun s => s.2.2.2.1 = s.2.1.length ∧ s.1.length = f.fBlocks.xs.length ∧ (∀ t ∈ s.2.1, 0 ≤ t ∧ t < f.fBlocks.xs.length) ∧ cntF7 s.1 + s.2.1.length ≤ f.fBlocks.xs.length ∧ reachL7 f (cntF7 s.1 + s.2.1.length) s.1 s.2.1 = reachB7 f)
    (fun s => cntF7 s.1 + s.2.2.2.1) ((List.replicate f.fBlocks.xs.length false).set 0 true, [0], some ⟨b4, 0, none⟩, 1, 1) (by repeat (first | exact trivial | refine ⟨rfl, ?_⟩)) ?_ PSub.refl ?_
  · have hcn : cntF7 ((List.replicate f.fBlocks.xs.length false).set 0 true) + 1 = f.fBlocks.xs.length := by
      rw [cntF7_set (i := 0) (out := List.replicate f.fBlocks.xs.length false) (by simp; omega) (nth_rep (α := Bool)), cntF7_rep]
    refine ⟨rfl, by simp, by simp; omega, by show cntF7 ((List.replicate f.fBlocks.xs.length false).set 0 true) + 1 ≤ _; omega, ?_⟩
    show reachL7 f (_ + 1) _ _ = _
    rw [hcn, reachB7, if_neg (by omega)]
  rintro g ⟨out, todo, A4, l4, c4⟩ ⟨j1, j2, j3, j4, j5⟩
  dsimp only at j1 j2 j3 j4 j5 ⊢
  subst j1
  (repeat' (first | refine s_move ?_ | refine s_assign ?_ | refine s_nil ?_ | (refine k_C ?_; first | refine s_seq ?_ | refine s_region ?_ | refine s_skip ?_ | refine s_block ?_ | refine s_exit ?_ | refine s_ret ?_ | (refine s_ifd rfl ?_ ?_ <;> intro hc <;> try (exfalso; omega))) | (refine k_E ?_; first | refine e_seq ?_ | refine e_seq_exit ?_ | refine e_bk_exit ?_ | refine e_lp_exit ?_) | (refine k_bin ?_; refine s_gtr rfl rfl ?_) | (refine k_call ?_; refine s_len rfl ?_)))
  · cases todo with
    | nil => exfalso; simp at hc
    | cons t todo =>
    have ht : 0 ≤ nth (t :: todo) 0 ∧ nth (t :: todo) 0 < f.fBlocks.xs.length := j3 t (by simp)
    have hlt : 0 < (t :: todo).length := by simp
    refine s_mixA (F := ?F) 8 [0, 1, 2, 3, 4, 5, 6] 7 rfl foI (by kernel_rfl) ?hread ?hrest
    case hread =>
      change sO _ _ _ _ _ _ (_ :: _ :: _ :: _ :: _ :: _ :: _ :: []) _ _ _
      (repeat' (first | refine s_move ?_ | refine s_nil ?_ | (refine k_load ?_; first | refine s_ldB rfl rfl ?_ | refine s_ld rfl om rfl ?_ | refine s_ldSA rfl rfl om rfl ?_) | (refine k_fld ?_; refine s_fldB rfl ?_) | (refine k_idx ?_; first | refine s_idx rfl rfl om ?_ | refine s_idxSI rfl rfl om om ?_)))
      exact e_F
    case hrest =>
      intro b5
      change sO _ _ _ _ _ _ (_ :: []) _ _ _
      (repeat' (first | refine s_move ?_ | refine s_assign ?_ | refine s_nil ?_ | (refine k_C ?_; first | refine s_seq ?_ | refine s_region ?_ | refine s_block ?_) | (refine k_E ?_; refine e_seq ?_) | (refine k_load ?_; refine s_ldB rfl rfl ?_) | (refine k_fld ?_; refine s_fldB rfl ?_) | (refine k_store ?_; refine s_stW _ rfl rfl ?_) | (refine k_call ?_; refine s_len rfl ?_) | (refine s_cutL rfl rfl om ?_; intro A)))
      refine s_loop (σ := Nat × List Bool × List Int × Option Addr × Nat × Nat) (fun s => [(1, .pointer (some ⟨b1, 0, none⟩)), (3, .slice (some ⟨bo, 0, none⟩) f.fBlocks.xs.length f.fBlocks.xs.length), (4, .slice s.2.2.2.1 s.2.2.2.2.1 s.2.2.2.2.2), (33, .slice (nth f.fBlocks.xs t.toNat).fEnd.fWays.A (nth f.fBlocks.xs t.toNat).fEnd.fWays.xs.length (nth f.fBlocks.xs t.toNat).fEnd.fWays.c), (34, .int .i64 (nth f.fBlocks.xs t.toNat).fEnd.fWays.xs.length), (35, .int .i64 s.1)])
        (fun s => [own 3 s.2.2.2.1 s.2.2.2.2.1 s.2.2.2.2.2 s.2.2.1, own 4 (some ⟨bo, 0, none⟩) f.fBlocks.xs.length f.fBlocks.xs.length s.2.1, var 63 b1 f])
        (fun s => s.1 ≤ (nth f.fBlocks.xs t.toNat).fEnd.fWays.xs.length ∧ s.2.2.2.2.1 = s.2.2.1.length ∧ s.2.1.length = f.fBlocks.xs.length ∧ (∀ t ∈ s.2.2.1, 0 ≤ t ∧ t < f.fBlocks.xs.length) ∧ cntF7 s.2.1 + s.2.2.1.length = cntF7 out + todo.length ∧ goW7 f.fBlocks.xs.length ((nth f.fBlocks.xs t.toNat).fEnd.fWays.xs.take s.1) out todo = (s.2.1, s.2.2.1))
        (fun s => (nth f.fBlocks.xs t.toNat).fEnd.fWays.xs.length - s.1) (0, out, todo, A, (t :: todo).length - 1, c4 - 1) (by repeat (first | exact trivial | refine ⟨rfl, ?_⟩)) ⟨Nat.zero_le _, rfl, j2, fun x hx => j3 x (by simp [hx]), rfl, rfl⟩ (PSub.take [1, 1, 1] rfl) ?_
      rintro g2 ⟨j, out2, todo2, A2, l2, c2⟩ ⟨i1, i2, i3, i4, i5, i6⟩
      dsimp only at i1 i2 i3 i4 i5 i6 ⊢
      subst i2
      have hw := hf.w t.toNat
      have i7 : todo2.length ≤ 1000 := by simp only [List.length_cons] at j4; omega
      (repeat' (first | refine s_move ?_ | refine s_assign ?_ | refine s_nil ?_ | (refine k_C ?_; first | refine s_seq ?_ | refine s_region ?_ | refine s_skip ?_ | refine s_block ?_ | refine s_exit ?_ | refine s_iff rfl ?_ | (refine s_ifd rfl ?_ ?_ <;> intro hc <;> try (exfalso; omega)) | (refine s_if rfl ?_ ?_ <;> intro hc)) | (refine k_E ?_; first | refine e_seq ?_ | refine e_seq_exit ?_ | refine e_bk_exit ?_ | refine e_bk ?_ | refine e_lp_exit ?_) | (refine k_load ?_; first | refine s_ldB rfl rfl ?_ | refine s_ld rfl om rfl ?_ | refine s_ldSA rfl rfl om rfl ?_) | (refine k_bin ?_; first | refine s_lss rfl rfl ?_ | refine s_add1 rfl rfl om ?_ | refine s_geq rfl rfl ?_) | (refine k_fld ?_; refine s_fldB rfl ?_) | (refine k_idx ?_; first | refine s_idxI rfl rfl om om ?_ | refine s_idxS rfl rfl om ?_) | (refine k_store ?_; first | refine s_stW _ rfl rfl ?_ | refine s_st _ rfl rfl om ?_) | (refine k_call ?_; refine s_len rfl ?_) | (refine k_guard ?_; first | refine s_on rfl rfl ?_ | refine s_off rfl rfl rfl rfl ?_ | (refine s_casesd rfl rfl ?_ ?_ <;> intro hc <;> try (exfalso; omega))) | (refine s_alloc ?_; intro b) | refine s_not rfl ?_ | refine s_pick rfl ?_ | (refine s_app1 _ (fun _ => rfl) rfl om ?_; intro v A c)))
      · have hno : nth out2 (nth (nth f.fBlocks.xs t.toNat).fEnd.fWays.xs j).fTo.toNat = false := by simpa using hc
        refine e_lp (j + 1, out2.set (nth (nth f.fBlocks.xs t.toNat).fEnd.fWays.xs j).fTo.toNat true, todo2 ++ [(nth (nth f.fBlocks.xs t.toNat).fEnd.fWays.xs j).fTo], A, todo2.length + 1, c) (by repeat (first | exact trivial | refine ⟨rfl, ?_⟩)) ⟨by show j + 1 ≤ _; omega, by simp, by simp [i3], ?_, ?_, ?_⟩ (by show _ - _ < _ - _; omega) (PSub.take [1, 1, 1] rfl)
        · intro x hx
          rcases List.mem_append.1 hx with hx | hx
          · exact i4 x hx
          · simp at hx; subst hx; exact ⟨by omega, by omega⟩
        · have := cntF7_set (out := out2) (i := (nth (nth f.fBlocks.xs t.toNat).fEnd.fWays.xs j).fTo.toNat) (by omega) hno
          show cntF7 (out2.set (nth (nth f.fBlocks.xs t.toNat).fEnd.fWays.xs j).fTo.toNat true) + (todo2 ++ [(nth (nth f.fBlocks.xs t.toNat).fEnd.fWays.xs j).fTo]).length = _
          rw [List.length_append, List.length_singleton]; omega
        · show goW7 _ (_root_.List.take (j + 1) _) _ _ = _
          rw [← take_nth (by omega), goW7_app, i6]
          unfold goW7
          rw [if_pos ⟨by omega, by omega, hno⟩]; rfl
      · have hno : nth out2 (nth (nth f.fBlocks.xs t.toNat).fEnd.fWays.xs j).fTo.toNat = true := by simpa using hc
        refine e_lp (j + 1, out2, todo2, A2, todo2.length, c2) (by repeat (first | exact trivial | refine ⟨rfl, ?_⟩)) ⟨by show j + 1 ≤ _; omega, rfl, i3, i4, i5, ?_⟩ (by show _ - _ < _ - _; omega) (PSub.take [1, 1, 1] rfl)
        show goW7 _ (_root_.List.take (j + 1) _) _ _ = _
        rw [← take_nth (by omega), goW7_app, i6]
        unfold goW7
        rw [if_neg (by rintro ⟨_, _, h⟩; rw [hno] at h; cases h)]; rfl
      · refine e_lp (j + 1, out2, todo2, A2, todo2.length, c2) (by repeat (first | exact trivial | refine ⟨rfl, ?_⟩)) ⟨by show j + 1 ≤ _; omega, rfl, i3, i4, i5, ?_⟩ (by show _ - _ < _ - _; omega) (PSub.take [1, 1, 1] rfl)
        show goW7 _ (_root_.List.take (j + 1) _) _ _ = _
        rw [← take_nth (by omega), goW7_app, i6]
        unfold goW7
        rw [if_neg (by rintro ⟨_, _, h⟩; omega)]; rfl
      · refine e_lp (j + 1, out2, todo2, A2, todo2.length, c2) (by repeat (first | exact trivial | refine ⟨rfl, ?_⟩)) ⟨by show j + 1 ≤ _; omega, rfl, i3, i4, i5, ?_⟩ (by show _ - _ < _ - _; omega) (PSub.take [1, 1, 1] rfl)
        show goW7 _ (_root_.List.take (j + 1) _) _ _ = _
        rw [← take_nth (by omega), goW7_app, i6]
        unfold goW7
        rw [if_neg (by rintro ⟨_, _, h⟩; omega)]; rfl
      · have hj' : j = (nth f.fBlocks.xs t.toNat).fEnd.fWays.xs.length := by omega
        subst hj'
        rw [List.take_length] at i6
        simp only [List.length_cons] at j4
        refine e_lp (out2, todo2, A2, todo2.length, c2) (by repeat (first | exact trivial | refine ⟨rfl, ?_⟩)) ⟨rfl, i3, i4, by show cntF7 out2 + todo2.length ≤ _; omega, ?_⟩ (by show cntF7 out2 + todo2.length < cntF7 out + (todo.length + 1); omega) PSub.refl
        show reachL7 f (cntF7 out2 + todo2.length) out2 todo2 = _
        rw [i5, ← j5]
        show _ = reachL7 f (cntF7 out + todo.length + 1) out (t :: todo)
        rw [reachL7, i6]
  · have h0 : todo = [] := List.eq_nil_of_length_eq_zero (by omega)
    subst h0
    refine e_done rfl rfl _ (PSub.take [1] rfl) ⟨_, _, rfl, ?_⟩
    rw [← j5]
    have : ∀ k, reachL7 f k out [] = out := fun k => by cases k <;> rfl
    rw [this]; rfl
end
section
open Go Go.RowKit

/-- A map that lies in block id: at most n entries, the set l. -/
structure Mp7 where
  id : Nat
  n : Nat
  l : List Int
noncomputable def Mp7.hp (m : Mp7) : HP := mp EB 3 m.id m.n (setF m.l)
noncomputable def bag7 (ms : List Mp7) : HP := star (ms.map Mp7.hp)
theorem map_eraseIdx7 {α β : Type} (f : α → β) : ∀ (l : List α) (j : Nat), (l.map f).eraseIdx j = (l.eraseIdx j).map f
  | [], _ => by simp
  | x :: l, 0 => rfl
  | x :: l, j + 1 => by simp only [List.map_cons, List.eraseIdx_cons_succ, map_eraseIdx7 f l j]
section
variable {w0 : World} {f0 : FP} {L : List HP} {ms : List Mp7} {j : Nat}
theorem PSub.bagNil : PSub w0 f0 L (bag7 [] :: L) := fun w H => H.star0.head
theorem PSub.bagOut (hj : j < ms.length) : PSub w0 f0 (bag7 ms :: L) (mp EB 3 ms[j].id ms[j].n (setF ms[j].l) :: bag7 (ms.eraseIdx j) :: L) := by
  intro w H
  have := H.pull 0 (Ls := ms.map Mp7.hp) rfl j (R := ms[j].hp) (by simp [hj])
  rw [map_eraseIdx7] at this
  exact this.head
theorem PSub.bagIn (m : Mp7) (hj : j < ms.length) : PSub w0 f0 (mp EB 3 m.id m.n (setF m.l) :: bag7 (ms.eraseIdx j) :: L) (bag7 (ms.set j m) :: L) := by
  intro w H
  have h1 := H.last
  have := h1.push (R := m.hp) 0 (Ls := ms.map Mp7.hp) j (by rw [map_eraseIdx7]; rfl) (by simpa using hj)
  rw [← List.map_set] at this
  exact this
theorem PSub.bagNew (m : Mp7) : PSub w0 f0 (mp EB 3 m.id m.n (setF m.l) :: bag7 ms :: L) (bag7 (ms ++ [m]) :: L) := by
  intro w H
  have h1 := H.last
  have := h1.more (R := m.hp) 0 (Ls := ms.map Mp7.hp) rfl
  have e : star (ms.map Mp7.hp ++ [m.hp]) = bag7 (ms ++ [m]) := by unfold bag7; rw [List.map_append]; rfl
  rw [e] at this
  exact this
/-- Two maps lie apart. -/
theorem mp_ne {a b na nb : Nat} {la lb : List Int} {w : World} (H : St w0 f0 (mp EB 3 a na (setF la) :: mp EB 3 b nb (setF lb) :: L) w) : a ≠ b := by
  obtain ⟨f, ⟨f1, f2, e1, e2, h1, h2⟩, _⟩ := H.sf
  obtain ⟨g1, g2, k1, k2, h3, h4⟩ := h2
  intro e
  subst e
  exact e2 a ((h1.1 a).2 rfl) ((k1 a).2 (.inl ((h3.1 a).2 rfl)))
end

/-! what known computes, plainly -/
/-- Where each block's set lies among the sets (none: nil), and the sets. -/
structure Kn7 where
  pos : List (Option Nat)
  ls : List (List Int)
def meet7 (s : Kn7) (n q : Nat) : Bool × Kn7 :=
  match s.pos[n]?.join with
  | none => (true, { s with pos := s.pos.set n (some q) })
  | some p => if p = q then (false, s) else (decide (∃ k ∈ s.ls.getD p [], k ∉ s.ls.getD q []), { s with ls := s.ls.set p (meetB (s.ls.getD p []) (s.ls.getD q [])) })

def lossB (l' l : List Int) : Bool := decide (∃ k ∈ l', k ∉ l)
def idsOf (ms : List Mp7) (pos : List (Option Nat)) : List Mr := pos.map fun p => ⟨p.map fun q => (ms.map (·.id)).getD q 0⟩
theorem idsOf_congr {ms ms' : List Mp7} (h : ms'.map (·.id) = ms.map (·.id)) (pos : List (Option Nat)) : idsOf ms' pos = idsOf ms pos := by unfold idsOf; rw [h]
theorem idsOf_len (ms : List Mp7) (pos : List (Option Nat)) : (idsOf ms pos).length = pos.length := by simp [idsOf]
theorem idsOf_nth {ms : List Mp7} {pos : List (Option Nat)} {n : Nat} (h : n < pos.length) : nth (idsOf ms pos) n = ⟨pos[n].map fun q => (ms.map (·.id)).getD q 0⟩ := by
  rw [nth_get (by rw [idsOf_len]; exact h)]; simp [idsOf]
section
variable {w0 : World} {f0 : FP} {L : List HP} {a b c : HP}
theorem PSub.swap : PSub w0 f0 (a :: b :: L) (b :: a :: L) := fun w H => by
  have := H.pick [1]; exact this
theorem PSub.roll : PSub w0 f0 (a :: b :: c :: L) (b :: c :: a :: L) := fun w H => by
  have := H.pick [1, 1]; exact this
variable {n : Nat} {ops : Array Oper} {m : Bool} {lo : List Oper} {QC : Exit → Fr → World → Prop} {f : Fr}
theorem so_ne {x y nx ny : Nat} {lx ly : List Int} (h : x ≠ y → sO Try.prog n w0 f0 ops m lo QC f (mp EB 3 x nx (setF lx) :: mp EB 3 y ny (setF ly) :: L)) : sO Try.prog n w0 f0 ops m lo QC f (mp EB 3 x nx (setF lx) :: mp EB 3 y ny (setF ly) :: L) :=
  fun w H => h (mp_ne H) w H
variable {rest : List Oper} {ty : TypeId} {pos' : String} {after : Array Edge}
theorem s_meet {d : Option Tmp} {la : List Operand} {ats : Array TypeId} {A : Option Addr} {cc : Nat} {pos : List (Option Nat)} {ms : List Mp7} {k q : Nat} (hv : la.map (ev f) = [.slice A pos.length cc, .int .i64 k, .map (some ((ms.map (·.id)).getD q 0))]) (hk : k < pos.length) (hl : pos.length < 1000000) (hq : q < ms.length) (hp : ∀ p, pos[k] = some p → p < ms.length)
    (hn : ∀ ms' : List Mp7, ms'.map (·.id) = ms.map (·.id) → ms'.map (·.n) = ms.map (·.n) → ms'.map (·.l) = (meet7 ⟨pos, ms.map (·.l)⟩ k q).2.ls → sO Try.prog n w0 f0 ops false rest QC (upO f d (.bool (meet7 ⟨pos, ms.map (·.l)⟩ k q).1)) (own 81 A pos.length cc (idsOf ms' (meet7 ⟨pos, ms.map (·.l)⟩ k q).2.pos) :: bag7 ms' :: L))
    (hd : dOk n d = true := by rfl) : sO Try.prog n w0 f0 ops false (⟨d, .call { callee := .value (.func 36), args := la.toArray, argTypes := ats }, ty, pos', after, none⟩ :: rest) QC f (own 81 A pos.length cc (idsOf ms pos) :: bag7 ms :: L) := by
  have hlen := idsOf_len ms pos
  have hid : (ms.map (·.id)).getD q 0 = ms[q].id := by simp [hq]
  rw [hid] at hv
  cases hpk : pos[k] with
  | none =>
    have e1 : meet7 ⟨pos, ms.map (·.l)⟩ k q = (true, ⟨pos.set k (some q), ms.map (·.l)⟩) := by simp [meet7, hk, hpk]
    rw [← hlen]
    refine s_call [0] (meet_nil A cc (idsOf ms pos) k ms[q].id (by omega) (by omega) (by rw [idsOf_nth hk, hpk]; rfl)) (by rw [hlen]; exact hv) rfl (fun _ _ _ => trivial) ?_ hd
    rintro v L' ⟨rfl, rfl⟩
    have := hn ms rfl rfl (by rw [e1])
    rw [e1] at this
    have e2 : (idsOf ms pos).set k ⟨some ms[q].id⟩ = idsOf ms (pos.set k (some q)) := by
      unfold idsOf; rw [List.map_set, Option.map_some, hid]
    rw [e2, hlen]
    exact this
  | some p =>
    have hpl := hp p hpk
    have hnth : nth (idsOf ms pos) k = ⟨some ms[p].id⟩ := by
      rw [idsOf_nth hk, hpk]
      simp [hpl]
    by_cases hpq : p = q
    · subst hpq
      have e1 : meet7 ⟨pos, ms.map (·.l)⟩ k p = (false, ⟨pos, ms.map (·.l)⟩) := by simp [meet7, hk, hpk]
      refine so_sub PSub.swap (so_sub (PSub.bagOut hpl) ?_)
      rw [← hlen]
      refine s_call [2, 0] (meet_same A cc (idsOf ms pos) k ms[p].id ms[p].n ms[p].l (by omega) (by omega) hnth) (by rw [hlen]; exact hv) rfl (fun _ _ _ => trivial) ?_ hd
      rintro v L' ⟨rfl, rfl⟩
      refine so_sub PSub.roll (so_sub (PSub.bagIn ms[p] hpl) (so_sub PSub.swap ?_))
      rw [List.set_getElem_self]
      have := hn ms rfl rfl (by rw [e1])
      rw [e1] at this
      rw [hlen]
      exact this
    · obtain ⟨q', hq', hqe⟩ : ∃ q', ∃ h : q' < (ms.eraseIdx p).length, (ms.eraseIdx p)[q'] = ms[q] := by
        have hle : (ms.eraseIdx p).length = ms.length - 1 := List.length_eraseIdx_of_lt hpl
        by_cases h : q < p
        · exact ⟨q, by omega, by rw [List.getElem_eraseIdx]; simp [h]⟩
        · refine ⟨q - 1, by omega, ?_⟩
          rw [List.getElem_eraseIdx]
          have h1 : ¬ q - 1 < p := by omega
          simp only [h1]
          have h2 : q - 1 + 1 = q := by omega
          simp [h2]
      have e1 : meet7 ⟨pos, ms.map (·.l)⟩ k q = (lossB ms[p].l ms[q].l, ⟨pos, (ms.map (·.l)).set p (meetB ms[p].l ms[q].l)⟩) := by simp [meet7, lossB, hk, hpk, hpq, hq, hpl]
      refine so_sub PSub.swap (so_sub (PSub.bagOut hpl) (so_sub PSub.roll (so_sub (PSub.bagOut hq') ?_)))
      rw [hqe]
      refine so_sub (fun w H => H.pick [0, 2]) ?_
      refine so_ne fun hne => ?_
      rw [← hlen]
      refine s_call [3, 1, 0] (meet_other A cc (idsOf ms pos) k ms[q].id ms[p].id ms[q].n ms[p].n ms[q].l ms[p].l (by omega) (by omega) hnth (Ne.symm hne)) (by rw [hlen]; exact hv) rfl (fun _ _ _ => trivial) ?_ hd
      rintro v L' ⟨rfl, rfl⟩
      refine so_sub (fun w H => H.pick [2, 2]) ?_
      refine so_sub (PSub.bagIn ms[q] hq') ?_
      rw [← hqe, List.set_getElem_self, hqe]
      refine so_sub (fun w H => H.pick [2, 0]) ?_
      refine so_sub (PSub.bagIn ⟨ms[p].id, ms[p].n, meetB ms[p].l ms[q].l⟩ hpl) (so_sub PSub.swap ?_)
      have hI : (ms.set p ⟨ms[p].id, ms[p].n, meetB ms[p].l ms[q].l⟩).map (·.id) = ms.map (·.id) := by
        rw [List.map_set]; apply List.ext_getElem <;> simp
        intro i h1 h2
        rw [List.getElem_set]; split <;> simp_all
      have hN : (ms.set p ⟨ms[p].id, ms[p].n, meetB ms[p].l ms[q].l⟩).map (·.n) = ms.map (·.n) := by
        rw [List.map_set]; apply List.ext_getElem <;> simp
        intro i h1 h2
        rw [List.getElem_set]; split <;> simp_all
      have := hn (ms.set p ⟨ms[p].id, ms[p].n, meetB ms[p].l ms[q].l⟩) hI hN (by rw [e1, List.map_set])
      rw [e1, idsOf_congr hI] at this
      rw [hlen]
      exact this
end

/-- The ways of one block, met one by one with set q. -/
def ways7 (q : Nat) : List SsaEdge → Bool × Kn7 → Bool × Kn7
  | [], s => s
  | w :: ws, s => let r := meet7 s.2 w.fTo.toNat q; ways7 q ws (r.1 || s.1, r.2)
/-- One block. -/
def blk7 (f : SsaFunc) (r : List Bool) (n : Nat) (s : Bool × Kn7) : Bool × Kn7 :=
  if nth r n = false ∨ (0 < n ∧ s.2.pos[n]?.join = none) then s
  else
    let s1 : Bool × Kn7 := if s.2.pos[n]?.join = none then (true, ⟨s.2.pos.set n (some s.2.ls.length), s.2.ls ++ [[]]⟩) else s
    let l := s1.2.ls.getD (s1.2.pos[n]?.join.getD 0) []
    ways7 s1.2.ls.length (nth f.fBlocks.xs n).fEnd.fWays.xs (s1.1, ⟨s1.2.pos, s1.2.ls ++ [l ++ madeB (nth f.fBlocks.xs n)]⟩)
/-- One round over all blocks. -/
def round7 (f : SsaFunc) (r : List Bool) : Nat → Bool × Kn7 → Bool × Kn7
  | 0, s => s
  | n + 1, s => blk7 f r n (round7 f r n s)
def fix7 (f : SsaFunc) (r : List Bool) : Nat → Kn7 → Kn7
  | 0, s => s
  | k + 1, s => let t := round7 f r f.fBlocks.xs.length (false, s); if t.1 then fix7 f r k t.2 else t.2
/-- What known lets known: the fuel is more than the rounds it takes. -/
def known7 (f : SsaFunc) : Kn7 := fix7 f (reachB7 f) (f.fBlocks.xs.length * ((madeAll f.fBlocks.xs).length + 2) + 1) ⟨List.replicate f.fBlocks.xs.length none, []⟩

/-- How much can still be lost. -/
def left7 (U : List Int) (s : Kn7) : Nat := (s.pos.map fun p => match p with
  | none => U.length + 1
  | some q => (U.filter (· ∈ s.ls.getD q [])).length).sum

theorem sum_le7 {α : Type} {l : List α} {g h : α → Nat} (H : ∀ x ∈ l, g x ≤ h x) : (l.map g).sum ≤ (l.map h).sum := by
  induction l with
  | nil => exact Nat.le_refl _
  | cons a l ih =>
    simp only [List.map_cons, List.sum_cons]
    have := ih fun x hx => H x (by simp [hx])
    have := H a (by simp)
    omega
theorem sum_lt7 {α : Type} {l : List α} {g h : α → Nat} (H : ∀ x ∈ l, g x ≤ h x) {y : α} (hy : y ∈ l) (hlt : g y < h y) : (l.map g).sum < (l.map h).sum := by
  induction l with
  | nil => cases hy
  | cons a l ih =>
    simp only [List.map_cons, List.sum_cons]
    have h1 := sum_le7 (g := g) (h := h) (l := l) fun x hx => H x (by simp [hx])
    have h2 := H a (by simp)
    rcases List.mem_cons.1 hy with rfl | hy
    · omega
    · have := ih (fun x hx => H x (by simp [hx])) hy
      omega
theorem sum_set7 {α : Type} {v : α → Nat} {y : α} : ∀ {l : List α} {n : Nat} (h : n < l.length), ((l.set n y).map v).sum + v l[n] = (l.map v).sum + v y
  | a :: l, 0, _ => by simp only [List.set_cons_zero, List.map_cons, List.sum_cons, List.getElem_cons_zero]; omega
  | a :: l, n + 1, h => by
    have := sum_set7 (v := v) (y := y) (l := l) (n := n) (by simpa using h)
    simp only [List.set_cons_succ, List.map_cons, List.sum_cons, List.getElem_cons_succ]; omega

def valP7 (U : List Int) (ls : List (List Int)) (p : Option Nat) : Nat := match p with
  | none => U.length + 1
  | some q => (U.filter (· ∈ ls.getD q [])).length
theorem left7_eq {U : List Int} {s : Kn7} : left7 U s = (s.pos.map (valP7 U s.ls)).sum := rfl
theorem valP7_some {U : List Int} {ls : List (List Int)} {q : Nat} : valP7 U ls (some q) ≤ U.length := List.length_filter_le _ _
theorem filter_le7 {U a b : List Int} (h : ∀ x ∈ b, x ∈ a) : (U.filter (· ∈ b)).length ≤ (U.filter (· ∈ a)).length := by
  induction U with
  | nil => exact Nat.le_refl _
  | cons x U ih =>
    simp only [List.filter_cons]
    by_cases hb : x ∈ b
    · simp [hb, h x hb]; exact ih
    · by_cases ha : x ∈ a
      · simp [hb, ha]; omega
      · simp [hb, ha]; exact ih
theorem filter_lt7 {U a b : List Int} (h : ∀ x ∈ b, x ∈ a) {y : Int} (hU : y ∈ U) (ha : y ∈ a) (hb : y ∉ b) : (U.filter (· ∈ b)).length < (U.filter (· ∈ a)).length := by
  induction U with
  | nil => cases hU
  | cons x U ih =>
    have hle := filter_le7 (U := U) h
    simp only [List.filter_cons]
    rcases List.mem_cons.1 hU with rfl | hU
    · simp [ha, hb]; omega
    · have := ih hU
      by_cases hxb : x ∈ b
      · simp [hxb, h x hxb]; omega
      · by_cases hxa : x ∈ a
        · simp [hxb, hxa]; omega
        · simp [hxb, hxa]; omega
theorem meet7_same {s : Kn7} {n q : Nat} (h : (meet7 s n q).1 = false) : (meet7 s n q).2 = s := by
  unfold meet7 at h ⊢
  split at h
  · cases h
  · rename_i p hp
    split at h
    · rename_i e; simp [e]
    · rename_i e
      simp only [e, if_false]
      have h := of_decide_eq_false h
      have hf : meetB (s.ls.getD p []) (s.ls.getD q []) = s.ls.getD p [] := by
        unfold meetB
        rw [List.filter_eq_self]
        intro x hx
        exact decide_eq_true (Classical.byContradiction fun hn => h ⟨x, hx, hn⟩)
      rw [hf]
      by_cases hl : p < s.ls.length
      · have : s.ls.getD p [] = s.ls[p] := by simp [hl]
        rw [this, List.set_getElem_self]
      · rw [List.set_eq_of_length_le (by omega)]
theorem meet7_left {U : List Int} {s : Kn7} {n q : Nat} (hn : n < s.pos.length) (hU : ∀ l ∈ s.ls, ∀ x ∈ l, x ∈ U) (h : (meet7 s n q).1 = true) : left7 U (meet7 s n q).2 < left7 U s := by
  unfold meet7 at h ⊢
  split
  · rename_i hp
    have hp' : s.pos[n] = none := by simpa [hn] using hp
    rw [left7_eq, left7_eq]
    show ((s.pos.set n (some q)).map (valP7 U s.ls)).sum < _
    have := sum_set7 (v := valP7 U s.ls) (y := some q) hn
    rw [hp'] at this
    have h2 : valP7 U s.ls none = U.length + 1 := rfl
    have h3 := valP7_some (U := U) (ls := s.ls) (q := q)
    omega
  · rename_i p hp
    have hp' : s.pos[n] = some p := by simpa [hn] using hp
    split at h
    · rename_i heq; rw [hp] at heq; cases heq
    · rename_i p' hp2
      have : p' = p := by rw [hp] at hp2; exact (Option.some.inj hp2).symm
      subst this
      split at h
      · cases h
      · rename_i e
        simp only [e, if_false]
        obtain ⟨x, hx, hxq⟩ := of_decide_eq_true h
        have hl : p' < s.ls.length := by
          apply Classical.byContradiction
          intro hl
          have : s.ls.getD p' [] = [] := by simp [Nat.le_of_not_lt hl]
          rw [this] at hx; cases hx
        have hg : s.ls.getD p' [] ∈ s.ls := by
          have : s.ls.getD p' [] = s.ls[p'] := by simp [hl]
          rw [this]; exact List.getElem_mem hl
        have hsub : ∀ y ∈ meetB (s.ls.getD p' []) (s.ls.getD q []), y ∈ s.ls.getD p' [] := fun y hy => (List.mem_filter.1 hy).1
        rw [left7_eq, left7_eq]
        show (s.pos.map (valP7 U (s.ls.set p' (meetB (s.ls.getD p' []) (s.ls.getD q []))))).sum < _
        have hval : ∀ r, (s.ls.set p' (meetB (s.ls.getD p' []) (s.ls.getD q []))).getD r [] = if r = p' then meetB (s.ls.getD p' []) (s.ls.getD q []) else s.ls.getD r [] := by
          intro r
          by_cases hr : r = p'
          · subst hr; simp [hl]
          · simp [hr, List.getElem?_set_ne (Ne.symm hr)]
        refine sum_lt7 (fun o ho => ?_) (y := some p') (by rw [← hp']; exact List.getElem_mem hn) ?_
        · cases o with
          | none => exact Nat.le_refl _
          | some r =>
            by_cases e2 : r = p'
            · subst e2
              simp only [valP7, hval, if_true]
              exact filter_le7 hsub
            · simp only [valP7, hval, e2, if_false]
              exact Nat.le_refl _
        · simp only [valP7, hval, if_true]
          exact filter_lt7 hsub (hU _ hg x hx) hx fun hm => hxq (of_decide_eq_true (List.mem_filter.1 hm).2)
end
section
open Go Go.RowKit

theorem ways7_app {q : Nat} {a b : List SsaEdge} {s : Bool × Kn7} : ways7 q (a ++ b) s = ways7 q b (ways7 q a s) := by
  induction a generalizing s with
  | nil => rfl
  | cons w a ih => exact ih
theorem meet7_pos {s : Kn7} {n q : Nat} : (meet7 s n q).2.pos.length = s.pos.length := by
  unfold meet7; split
  · simp
  · split <;> rfl
theorem meet7_ls {s : Kn7} {n q : Nat} : (meet7 s n q).2.ls.length = s.ls.length := by
  unfold meet7; split
  · rfl
  · split <;> simp
theorem ways7_pos {q : Nat} {a : List SsaEdge} {s : Bool × Kn7} : (ways7 q a s).2.pos.length = s.2.pos.length := by
  induction a generalizing s with
  | nil => rfl
  | cons w a ih => exact (ih (s := _)).trans meet7_pos
theorem ways7_ls {q : Nat} {a : List SsaEdge} {s : Bool × Kn7} : (ways7 q a s).2.ls.length = s.2.ls.length := by
  induction a generalizing s with
  | nil => rfl
  | cons w a ih => exact (ih (s := _)).trans meet7_ls

theorem meet7_U {U : List Int} {s : Kn7} {n q : Nat} (hU : ∀ l ∈ s.ls, ∀ x ∈ l, x ∈ U) : ∀ l ∈ (meet7 s n q).2.ls, ∀ x ∈ l, x ∈ U := by
  unfold meet7
  split
  · exact hU
  · rename_i p hp
    split
    · exact hU
    · intro l hl x hx
      rcases List.mem_or_eq_of_mem_set hl with h | rfl
      · exact hU l h x hx
      · have hx := (List.mem_filter.1 hx).1
        by_cases h : p < s.ls.length
        · have e : s.ls.getD p [] = s.ls[p] := by simp [h]
          rw [e] at hx
          exact hU _ (List.getElem_mem h) x hx
        · have e : s.ls.getD p [] = [] := by simp [Nat.le_of_not_lt h]
          rw [e] at hx; cases hx
theorem ways7_left {U : List Int} {q : Nat} {a : List SsaEdge} {s : Bool × Kn7} (hw : ∀ w ∈ a, w.fTo.toNat < s.2.pos.length) (hU : ∀ l ∈ s.2.ls, ∀ x ∈ l, x ∈ U) :
    (∀ l ∈ (ways7 q a s).2.ls, ∀ x ∈ l, x ∈ U) ∧ left7 U (ways7 q a s).2 ≤ left7 U s.2 ∧ ((ways7 q a s).1 = true → s.1 = true ∨ left7 U (ways7 q a s).2 < left7 U s.2) ∧ ((ways7 q a s).1 = false → s.1 = false) := by
  induction a generalizing s with
  | nil => exact ⟨hU, Nat.le_refl _, fun h => .inl h, id⟩
  | cons w a ih =>
    have h := ih (s := ((meet7 s.2 w.fTo.toNat q).1 || s.1, (meet7 s.2 w.fTo.toNat q).2)) (fun x hx => by rw [meet7_pos]; exact hw x (by simp [hx])) (meet7_U hU)
    obtain ⟨h1, h2, h3, h4⟩ := h
    have e : ways7 q (w :: a) s = ways7 q a ((meet7 s.2 w.fTo.toNat q).1 || s.1, (meet7 s.2 w.fTo.toNat q).2) := rfl
    rw [e]
    dsimp only at h2 h3 h4
    cases hm : (meet7 s.2 w.fTo.toNat q).1 with
    | true =>
      have hl := meet7_left (hw w (by simp)) hU hm
      rw [hm] at h1 h2 h3 h4
      refine ⟨h1, by omega, fun _ => .inr (by omega), fun hf => ?_⟩
      have := h4 hf
      simp at this
    | false =>
      have hs := meet7_same hm
      rw [hm] at h1 h2 h3 h4
      rw [hs] at h1 h2 h3 h4 ⊢
      simp only [Bool.false_or] at h1 h2 h3 h4 ⊢
      exact ⟨h1, h2, h3, h4⟩


/-! ### blocks and rounds -/
def Ok7 (f : SsaFunc) (s : Kn7) : Prop := s.pos.length = f.fBlocks.xs.length ∧ (∀ q, some q ∈ s.pos → q < s.ls.length) ∧ ∀ l ∈ s.ls, ∀ x ∈ l, x ∈ madeAll f.fBlocks.xs
theorem left7_app {U : List Int} {pos : List (Option Nat)} {ls more : List (List Int)} (h : ∀ q, some q ∈ pos → q < ls.length) : left7 U ⟨pos, ls ++ more⟩ = left7 U ⟨pos, ls⟩ := by
  unfold left7
  congr 1
  refine List.map_congr_left fun p hp => ?_
  cases p with
  | none => rfl
  | some q =>
    have hq := h q hp
    have : (ls ++ more).getD q [] = ls.getD q [] := by simp [hq, List.getElem?_append_left hq]
    show (U.filter (· ∈ (ls ++ more).getD q [])).length = (U.filter (· ∈ ls.getD q [])).length
    rw [this]
theorem meet7_ix {s : Kn7} {n q : Nat} (h : ∀ r, some r ∈ s.pos → r < s.ls.length) (hq : q < s.ls.length) : ∀ r, some r ∈ (meet7 s n q).2.pos → r < (meet7 s n q).2.ls.length := by
  rw [meet7_ls]
  unfold meet7
  split
  · intro r hr
    rcases List.mem_or_eq_of_mem_set hr with hr | hr
    · exact h r hr
    · cases hr; exact hq
  · split <;> exact h
theorem ways7_ix {q : Nat} {a : List SsaEdge} {s : Bool × Kn7} (h : ∀ r, some r ∈ s.2.pos → r < s.2.ls.length) (hq : q < s.2.ls.length) : ∀ r, some r ∈ (ways7 q a s).2.pos → r < (ways7 q a s).2.ls.length := by
  induction a generalizing s with
  | nil => exact h
  | cons w a ih => exact ih (s := _) (meet7_ix h hq) (by rw [meet7_ls]; exact hq)
theorem made_sub {f : SsaFunc} {n : Nat} (hn : n < f.fBlocks.xs.length) {x : Int} (hx : x ∈ madeB (nth f.fBlocks.xs n)) : x ∈ madeAll f.fBlocks.xs := List.mem_flatMap.2 ⟨_, nth_mem hn, hx⟩
theorem ends_to {f : SsaFunc} {e : SsaEnd} (h : endsB f e = true) {w : SsaEdge} (hw : w ∈ e.fWays.xs) : 1 ≤ w.fTo ∧ w.fTo < f.fBlocks.xs.length := by
  unfold endsB at h
  simp only [Bool.and_eq_true, List.all_eq_true] at h
  have := h.2 w hw
  unfold wayB at this
  simp only [Bool.and_eq_true, decide_eq_true_eq] at this
  exact this.1
/-- The state in which the ways of a block are met. -/
def in7 (f : SsaFunc) (n q : Nat) (s : Kn7) : Kn7 := ⟨s.pos, s.ls ++ [s.ls.getD q [] ++ madeB (nth f.fBlocks.xs n)]⟩
def new7 (s : Kn7) (n : Nat) : Kn7 := ⟨s.pos.set n (some s.ls.length), s.ls ++ [[]]⟩
theorem blk7_skip {f : SsaFunc} {r : List Bool} {n : Nat} {s : Bool × Kn7} (h : nth r n = false ∨ (0 < n ∧ s.2.pos[n]?.join = none)) : blk7 f r n s = s := by rw [blk7, if_pos h]
theorem blk7_old {f : SsaFunc} {r : List Bool} {n q : Nat} {s : Bool × Kn7} (h : nth r n = true) (hq : s.2.pos[n]?.join = some q) : blk7 f r n s = ways7 s.2.ls.length (nth f.fBlocks.xs n).fEnd.fWays.xs (s.1, in7 f n q s.2) := by
  rw [blk7, if_neg (by simp [h, hq])]
  simp [hq, in7]
theorem blk7_new {f : SsaFunc} {r : List Bool} {n : Nat} {s : Bool × Kn7} (hn : n < s.2.pos.length) (h : nth r n = true) (h0 : n = 0) (hq : s.2.pos[n]?.join = none) : blk7 f r n s = ways7 (s.2.ls.length + 1) (nth f.fBlocks.xs n).fEnd.fWays.xs (true, in7 f n s.2.ls.length (new7 s.2 n)) := by
  subst h0
  have hp : s.2.pos[0] = none := by simpa [hn] using hq
  rw [blk7, if_neg (by simp [h])]
  simp [in7, new7, hn, hp]
theorem Ok7.in7 {f : SsaFunc} {n q : Nat} {s : Kn7} (h : Ok7 f s) (hn : n < f.fBlocks.xs.length) (hq : q < s.ls.length) : Ok7 f (in7 f n q s) ∧ left7 (madeAll f.fBlocks.xs) (Go.Proofs.Ytoknjpmlloikhaa.in7 f n q s) = left7 (madeAll f.fBlocks.xs) s := by
  obtain ⟨h1, h2, h3⟩ := h
  refine ⟨⟨h1, fun r hr => ?_, fun l hl x hx => ?_⟩, left7_app h2⟩
  · have := h2 r hr
    show r < (s.ls ++ [_]).length
    rw [List.length_append]; exact Nat.lt_of_lt_of_le this (Nat.le_add_right _ _)
  · rcases List.mem_append.1 hl with hl | hl
    · exact h3 l hl x hx
    · rw [List.mem_singleton] at hl
      subst hl
      rcases List.mem_append.1 hx with hx | hx
      · refine h3 (s.ls[q]) (List.getElem_mem hq) x ?_
        simpa [hq] using hx
      · exact made_sub hn hx
theorem Ok7.new7 {f : SsaFunc} {n : Nat} {s : Kn7} (h : Ok7 f s) (hn : n < f.fBlocks.xs.length) (hp : s.pos[n]?.join = none) : Ok7 f (new7 s n) ∧ left7 (madeAll f.fBlocks.xs) (Go.Proofs.Ytoknjpmlloikhaa.new7 s n) < left7 (madeAll f.fBlocks.xs) s := by
  obtain ⟨h1, h2, h3⟩ := h
  refine ⟨⟨by simp [Go.Proofs.Ytoknjpmlloikhaa.new7, h1], fun r hr => ?_, fun l hl x hx => ?_⟩, ?_⟩
  · show r < (s.ls ++ [[]]).length
    rw [List.length_append, List.length_singleton]
    rcases List.mem_or_eq_of_mem_set hr with hr | hr
    · have := h2 r hr; omega
    · cases hr; omega
  · rcases List.mem_append.1 hl with hl | hl
    · exact h3 l hl x hx
    · rw [List.mem_singleton] at hl
      subst hl; cases hx
  · have hn' : n < s.pos.length := by omega
    have hp' : s.pos[n] = none := by simpa [hn'] using hp
    rw [← left7_app (more := [[]]) h2, left7_eq, left7_eq]
    show ((s.pos.set n (some s.ls.length)).map (valP7 _ (s.ls ++ [[]]))).sum < (s.pos.map (valP7 _ (s.ls ++ [[]]))).sum
    have := sum_set7 (v := valP7 (madeAll f.fBlocks.xs) (s.ls ++ [[]])) (y := some s.ls.length) hn'
    rw [hp'] at this
    have h2 : valP7 (madeAll f.fBlocks.xs) (s.ls ++ [[]]) none = (madeAll f.fBlocks.xs).length + 1 := rfl
    have h3 := valP7_some (U := madeAll f.fBlocks.xs) (ls := s.ls ++ [[]]) (q := s.ls.length)
    omega
theorem Ok7.ways {f : SsaFunc} {q : Nat} {a : List SsaEdge} {s : Bool × Kn7} (h : Ok7 f s.2) (hq : q < s.2.ls.length) (hw : ∀ w ∈ a, 1 ≤ w.fTo ∧ w.fTo < f.fBlocks.xs.length) : Ok7 f (ways7 q a s).2 := by
  obtain ⟨h1, h2, h3⟩ := h
  exact ⟨by rw [ways7_pos, h1], ways7_ix h2 hq, (ways7_left (fun w hw' => by have := hw w hw'; omega) h3).1⟩
theorem blk7_left {f : SsaFunc} {r : List Bool} {n : Nat} {s : Bool × Kn7} (he : ∀ i, i < f.fBlocks.xs.length → endsB f (nth f.fBlocks.xs i).fEnd = true) (hn : n < f.fBlocks.xs.length) (h : Ok7 f s.2) :
    Ok7 f (blk7 f r n s).2 ∧ left7 (madeAll f.fBlocks.xs) (blk7 f r n s).2 ≤ left7 (madeAll f.fBlocks.xs) s.2 ∧ ((blk7 f r n s).1 = true → s.1 = true ∨ left7 (madeAll f.fBlocks.xs) (blk7 f r n s).2 < left7 (madeAll f.fBlocks.xs) s.2) := by
  have hw : ∀ w ∈ (nth f.fBlocks.xs n).fEnd.fWays.xs, 1 ≤ w.fTo ∧ w.fTo < f.fBlocks.xs.length := fun w hw => ends_to (he n hn) hw
  by_cases hr : nth r n = true
  · cases hq : s.2.pos[n]?.join with
    | some q =>
      have hq' : q < s.2.ls.length := h.2.1 q (by
        have hn' : n < s.2.pos.length := by rw [h.1]; exact hn
        have : s.2.pos[n] = some q := by simpa [hn'] using hq
        rw [← this]; exact List.getElem_mem hn')
      rw [blk7_old hr hq]
      obtain ⟨k1, k2⟩ := h.in7 hn hq'
      have k3 := k1.ways (s := (s.1, in7 f n q s.2)) (q := s.2.ls.length) (by show _ < (s.2.ls ++ [_]).length; simp) hw
      obtain ⟨_, k4, k5, _⟩ := ways7_left (U := madeAll f.fBlocks.xs) (q := s.2.ls.length) (s := (s.1, in7 f n q s.2)) (a := (nth f.fBlocks.xs n).fEnd.fWays.xs) (fun w hw' => by have := hw w hw'; have := k1.1; show _ < (in7 f n q s.2).pos.length; omega) k1.2.2
      dsimp only at k4 k5
      rw [k2] at k4 k5
      exact ⟨k3, k4, k5⟩
    | none =>
      by_cases h0 : n = 0
      · rw [blk7_new (by rw [h.1]; exact hn) hr h0 hq]
        obtain ⟨m1, m2⟩ := h.new7 hn hq
        obtain ⟨k1, k2⟩ := m1.in7 (q := s.2.ls.length) hn (by show _ < (s.2.ls ++ [_]).length; simp)
        have k3 := k1.ways (s := (true, in7 f n s.2.ls.length (new7 s.2 n))) (q := s.2.ls.length + 1) (by show _ < ((s.2.ls ++ [[]]) ++ [_]).length; simp) hw
        obtain ⟨_, k4, k5, _⟩ := ways7_left (U := madeAll f.fBlocks.xs) (q := s.2.ls.length + 1) (s := (true, in7 f n s.2.ls.length (new7 s.2 n))) (a := (nth f.fBlocks.xs n).fEnd.fWays.xs) (fun w hw' => by have := hw w hw'; have := k1.1; show _ < (in7 f n s.2.ls.length (new7 s.2 n)).pos.length; omega) k1.2.2
        dsimp only at k4 k5
        rw [k2] at k4 k5
        exact ⟨k3, by omega, fun _ => .inr (by omega)⟩
      · rw [blk7_skip (.inr ⟨by omega, hq⟩)]
        exact ⟨h, Nat.le_refl _, fun h => .inl h⟩
  · rw [blk7_skip (.inl (by simpa using hr))]
    exact ⟨h, Nat.le_refl _, fun h => .inl h⟩
theorem round7_left {f : SsaFunc} {r : List Bool} {n : Nat} {s : Bool × Kn7} (he : ∀ i, i < f.fBlocks.xs.length → endsB f (nth f.fBlocks.xs i).fEnd = true) (hn : n ≤ f.fBlocks.xs.length) (h : Ok7 f s.2) :
    Ok7 f (round7 f r n s).2 ∧ left7 (madeAll f.fBlocks.xs) (round7 f r n s).2 ≤ left7 (madeAll f.fBlocks.xs) s.2 ∧ ((round7 f r n s).1 = true → s.1 = true ∨ left7 (madeAll f.fBlocks.xs) (round7 f r n s).2 < left7 (madeAll f.fBlocks.xs) s.2) := by
  induction n with
  | zero => exact ⟨h, Nat.le_refl _, fun h => .inl h⟩
  | succ n ih =>
    obtain ⟨i1, i2, i3⟩ := ih (by omega)
    obtain ⟨k1, k2, k3⟩ := blk7_left (r := r) (s := round7 f r n s) he (by omega : n < _) i1
    show Ok7 f (blk7 f r n (round7 f r n s)).2 ∧ left7 _ (blk7 f r n (round7 f r n s)).2 ≤ _ ∧ ((blk7 f r n (round7 f r n s)).1 = true → s.1 = true ∨ left7 _ (blk7 f r n (round7 f r n s)).2 < _)
    refine ⟨k1, by omega, fun ht => ?_⟩
    rcases k3 ht with h1 | h1
    · rcases i3 h1 with h2 | h2
      · exact .inl h2
      · exact .inr (by omega)
    · exact .inr (by omega)
/-- How many blocks have a set. -/
def cnt7 (pos : List (Option Nat)) : Nat := pos.countP Option.isSome
theorem cnt7_le {pos : List (Option Nat)} : cnt7 pos ≤ pos.length := List.countP_le_length
theorem cnt7_set {pos : List (Option Nat)} {n q : Nat} (hn : n < pos.length) (h : pos[n]?.join = none) : cnt7 (pos.set n (some q)) = cnt7 pos + 1 := by
  have hp' : pos[n] = none := by simpa [hn] using h
  unfold cnt7
  rw [List.countP_set hn, hp']; simp
end
end Go.Proofs.Ytoknjpmlloikhaa
