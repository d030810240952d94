/- Layer 15: later, walked. -/
import Derived.Test.YtfplmdjlgjgbgaaV19
namespace Go.Proofs.Ytfplmdjlgjgbgaa
set_option linter.unusedVariables false
set_option linter.unusedSimpArgs false
open Go Go.RowKit

theorem touchB_le {b : SsaBlock} {k : Nat} {v : Int} : touchB b k v ≤ 2 := by
  unfold touchB
  split
  · split
    · omega
    · split <;> omega
  · split <;> omega
theorem count_false_set {l : List Bool} : ∀ {i : Nat}, i < l.length → nth l i = false → (l.set i true).count false + 1 = l.count false := by
  induction l with
  | nil => intro i h; simp at h
  | cons x l ih =>
    intro i h h2
    cases i with
    | zero =>
      have : x = false := h2
      subst this; simp
    | succ i =>
      have := ih (i := i) (by simpa using h) h2
      simp only [List.set_cons_succ, List.count_cons]
      omega
set_option maxHeartbeats 8000000 in
theorem later15_spec (f : SsaFunc) (hf : OkF f) (hfw : FewFn f) (hway : ∀ b, b < f.fBlocks.xs.length → ∀ w ∈ waysQ f b, 0 ≤ w.fTo ∧ w.fTo < f.fBlocks.xs.length) (I O : Nat → Int → Bool) (hQ : FixQ f I O) (n k : Nat) (hn : n < f.fBlocks.xs.length) (hk : k ≤ (nth f.fBlocks.xs n).fIns.xs.length) (v : Int) (hv : v ≠ 0) :
    Spec Try.prog 14 [.agg (Enc.enc f).toArray, .int .i64 (n : Nat), .int .i64 (k : Nat), .int .i64 v] [] (fun ok w => RdD ok w f) fun r L' => r = .bool (liveB (nth f.fBlocks.xs n) (O n) k v) ∧ L' = [] := by
  refine spec_of Try.func14 rfl rfl fun w0 f0 hR => ?_
  have hfb := hf.b
  have hbk := hf.k n hn
  have hbi := hbk.i
  (repeat' (first | refine s_assign ?_ | refine s_nil ?_ | (refine k_C ?_; first | refine s_seq ?_ | refine s_region ?_ | refine s_block ?_) | (refine k_E ?_; refine e_seq ?_) | (refine k_load ?_; refine s_ldB rfl rfl ?_) | (refine k_fld ?_; refine s_fldB rfl ?_) | (refine k_call ?_; refine s_len rfl ?_) | (refine s_box _ rfl ?_; intro b) | (refine s_make rfl rfl om ?_; intro b)))
  rename_i b4
  obtain ⟨b9, rfl⟩ : ∃ q, q = b := ⟨_, rfl⟩
  refine s_loop (σ := Nat) (fun j => [(1, .int .i64 (n : Nat)), (3, .int .i64 v), (4, .pointer (some ⟨b4, 0, none⟩)), (9, .slice (some ⟨b9, 0, none⟩) f.fBlocks.xs.length f.fBlocks.xs.length), (2, .int .i64 (j : Nat))]) (fun _ => [own 4 (some ⟨b9, 0, none⟩) f.fBlocks.xs.length f.fBlocks.xs.length (List.replicate f.fBlocks.xs.length false), var 38 b4 f])
    (fun j => j ≤ (nth f.fBlocks.xs n).fIns.xs.length + 1 ∧ scanB (nth f.fBlocks.xs n) v k = scanB (nth f.fBlocks.xs n) v j) (fun j => (nth f.fBlocks.xs n).fIns.xs.length + 1 - j) k (by repeat (first | exact trivial | refine ⟨rfl, ?_⟩)) ⟨by omega, rfl⟩ PSub.refl ?_
  rintro g j ⟨hj, hjs⟩
  (repeat' (first | refine s_move ?_ | refine s_nil ?_ | (refine k_C ?_; first | refine s_seq ?_ | refine s_region ?_) | (refine k_E ?_; refine e_seq ?_) | (refine k_load ?_; first | refine s_ldB rfl rfl ?_ | refine s_ldSF rfl rfl om rfl ?_) | (refine k_bin ?_; refine s_leq rfl rfl ?_) | (refine k_fld ?_; first | refine s_fld rfl ?_ | refine s_fldB rfl ?_) | (refine k_idx ?_; refine s_idxS rfl rfl om ?_) | (refine k_call ?_; refine s_len rfl ?_)))
  (first | (refine k_C ?_; (refine s_ifd rfl ?_ ?_ <;> intro hc <;> try (exfalso; omega))))
  · have hjl : j ≤ (nth f.fBlocks.xs n).fIns.xs.length := by omega
    (repeat' (first | refine s_move ?_ | (refine k_C ?_; first | refine s_seq ?_ | refine s_region ?_ | refine s_skip ?_ | refine s_block ?_) | (refine k_E ?_; refine e_seq ?_) | (refine k_load ?_; first | refine s_ldB rfl rfl ?_ | refine s_ldSA rfl rfl om rfl ?_) | (refine k_fld ?_; refine s_fldB rfl ?_) | (refine k_idx ?_; refine s_idxS rfl rfl om ?_)))
    refine s_call0 (touch15_spec (nth f.fBlocks.xs n) hbk (fun m hm => Nat.le_trans ((hfw.k n hn).wa m hm) (by omega)) j v) rfl (fun w1 H => H.rdD (by infer_instance)) ?_
    rintro r L' ⟨rfl, rfl⟩
    have hst := scanB_step (v := v) hjl
    generalize htb : touchB (nth f.fBlocks.xs n) j v = tb at hst ⊢
    (repeat' (first | refine s_move ?_ | refine s_assign ?_ | refine s_nil ?_ | (refine k_C ?_; first | refine s_seq ?_ | refine s_region ?_ | refine s_skip ?_ | refine s_ret ?_ | (refine s_ifn rfl ?_ ?_ <;> intro hc <;> try (exfalso; omega))) | (refine k_E ?_; first | refine e_seq ?_ | refine e_seq_ret ?_ | refine e_bk_ret ?_ | refine e_bk ?_ | refine e_lp_ret ?_) | (refine k_bin ?_; first | refine s_add1 rfl rfl om ?_ | refine s_eql rfl rfl ?_ | refine s_neq rfl rfl ?_)))
    · have ht : tb ≠ 0 := by omega
      rw [if_neg ht] at hst
      refine e_done rfl rfl [] (PSub.take [] rfl) ⟨?_, rfl⟩
      refine congrArg Value.bool ?_
      rw [Bool.eq_iff_iff, scan_live hv _ k (Nat.add_sub_cancel' hk), hjs, hst]
      show decide ((tb : Int) = 1) = true ↔ _
      rw [decide_eq_true_eq]
      omega
    · have ht : tb = 0 := by omega
      rw [if_pos ht] at hst
      exact e_lp (j + 1) (by repeat (first | exact trivial | refine ⟨rfl, ?_⟩)) ⟨by show j + 1 ≤ _; omega, by show scanB (nth f.fBlocks.xs n) v k = scanB (nth f.fBlocks.xs n) v (j + 1); rw [hjs, hst]⟩ (by show _ - _ < _ - _; omega) PSub.refl
  have hjE : j = (nth f.fBlocks.xs n).fIns.xs.length + 1 := by omega
  have hs0 : scanB (nth f.fBlocks.xs n) v k = 0 := by rw [hjs, hjE, scanB_end]
  have hns : ∀ b, liveB (nth f.fBlocks.xs n) b k v = b v := fun b => by
    rw [Bool.eq_iff_iff, scan_live hv _ k (Nat.add_sub_cancel' hk), hs0]
    simp
  rw [hns]
  (repeat' (first | refine s_move ?_ | refine s_assign ?_ | refine s_nil ?_ | (refine k_C ?_; first | refine s_seq ?_ | refine s_region ?_ | refine s_block ?_ | refine s_exit ?_) | (refine k_E ?_; first | refine e_seq ?_ | refine e_seq_exit ?_ | refine e_bk_exit ?_ | refine e_lp_exit ?_) | (refine s_lit [_] rfl (by decide) rfl ?_; intro b)))
  obtain ⟨bq, rfl⟩ : ∃ q, q = b := ⟨_, rfl⟩
  refine s_loop (σ := List Int × Option Addr × Nat × Nat × List Bool × (Nat → Prop)) (fun z => [(3, .int .i64 v), (4, .pointer (some ⟨b4, 0, none⟩)), (9, .slice (some ⟨b9, 0, none⟩) f.fBlocks.xs.length f.fBlocks.xs.length), (11, .slice z.2.1 z.2.2.1 z.2.2.2.1)])
    (fun z => [own 3 z.2.1 z.2.2.1 z.2.2.2.1 z.1, own 4 (some ⟨b9, 0, none⟩) f.fBlocks.xs.length f.fBlocks.xs.length z.2.2.2.2.1, var 38 b4 f])
    (fun z => z.2.2.1 = z.1.length ∧ z.2.2.1 + z.2.2.2.2.1.count false ≤ f.fBlocks.xs.length + 1 ∧ Sk f O v n (waysQ f) z.2.2.2.2.1 z.1 z.2.2.2.2.2) (fun z => z.2.2.1 + z.2.2.2.2.1.count false) ([(n : Int)], some ⟨bq, 0, none⟩, 1, 1, List.replicate f.fBlocks.xs.length false, fun _ => False) (by repeat (first | exact trivial | refine ⟨rfl, ?_⟩)) ⟨rfl, by show 1 + (List.replicate f.fBlocks.xs.length false).count false ≤ _; rw [List.count_replicate_self]; omega, Sk.start hn⟩ PSub.refl ?_
  rintro g2 ⟨q, A, l, c, seen, P⟩ ⟨hl, hc1, hS⟩
  dsimp only at hl hc1 hS ⊢
  (repeat' (first | refine s_move ?_ | refine s_nil ?_ | (refine k_C ?_; first | refine s_seq ?_ | refine s_region ?_) | (refine k_E ?_; refine e_seq ?_) | (refine k_bin ?_; refine s_gtr rfl rfl ?_) | (refine k_call ?_; refine s_len rfl ?_)))
  (first | (refine k_C ?_; (refine s_ifd rfl ?_ ?_ <;> intro hc <;> try (exfalso; omega))))
  rotate_left
  · have hq : q = [] := List.eq_nil_of_length_eq_zero (by omega)
    subst hq
    (repeat' (first | refine s_assign ?_ | refine s_nil ?_ | (refine k_C ?_; first | refine s_seq ?_ | refine s_region ?_ | refine s_exit ?_ | refine s_ret ?_) | (refine k_E ?_; first | refine e_seq ?_ | refine e_seq_exit ?_ | refine e_bk_exit ?_ | refine e_lp_exit ?_)))
    exact e_done rfl rfl [] (PSub.take [] rfl) ⟨by rw [hS.none hQ hv]; rfl, rfl⟩
  have hl0 : 0 < l := by omega
  cases q with
  | nil => exact absurd hl (by simp; omega)
  | cons x q =>
  obtain ⟨hx0, hx1, hx2⟩ := hS.qr x (by simp)
  obtain ⟨xn, rfl⟩ : ∃ m : Nat, x = (m : Int) := ⟨x.toNat, by omega⟩
  rw [Int.toNat_natCast] at hx2
  have hxn : xn < f.fBlocks.xs.length := by omega
  have hS1 := hS.go
  rw [Int.toNat_natCast] at hS1
  (repeat' (first | refine s_move ?_ | refine s_assign ?_ | refine s_nil ?_ | (refine k_C ?_; first | refine s_seq ?_ | refine s_region ?_ | refine s_skip ?_ | refine s_block ?_) | (refine k_E ?_; refine e_seq ?_) | (refine k_load ?_; first | refine s_ldB rfl rfl ?_ | refine s_ld rfl om rfl ?_) | (refine k_fld ?_; first | refine s_fld rfl ?_ | refine s_fldB rfl ?_) | (refine k_idx ?_; first | refine s_idx rfl rfl om ?_ | refine s_idxS rfl rfl om ?_) | (refine s_cutL rfl rfl om ?_; intro A)))
  refine s_ldSF2 (s := f.fBlocks) (j := xn) rfl rfl (by omega) rfl ?_
  have hwx := (hf.k xn hxn).w
  simp only [List.length_cons] at hl
  (repeat' (first | refine s_move ?_ | refine s_nil ?_ | (refine k_C ?_; refine s_block ?_) | (refine k_E ?_; refine e_seq ?_) | (refine k_call ?_; refine s_len rfl ?_)))
  refine s_loop (σ := Nat × List Int × Option Addr × Nat × Nat × List Bool) (fun z => [(3, .int .i64 v), (4, .pointer (some ⟨b4, 0, none⟩)), (9, .slice (some ⟨b9, 0, none⟩) f.fBlocks.xs.length f.fBlocks.xs.length), (11, .slice z.2.2.1 z.2.2.2.1 z.2.2.2.2.1), (63, .slice (nth f.fBlocks.xs xn).fEnd.fWays.A (nth f.fBlocks.xs xn).fEnd.fWays.xs.length (nth f.fBlocks.xs xn).fEnd.fWays.c), (64, .int .i64 (nth f.fBlocks.xs xn).fEnd.fWays.xs.length), (65, .int .i64 (z.1 : Nat))])
    (fun z => [own 3 z.2.2.1 z.2.2.2.1 z.2.2.2.2.1 z.2.1, own 4 (some ⟨b9, 0, none⟩) f.fBlocks.xs.length f.fBlocks.xs.length z.2.2.2.2.2, var 38 b4 f])
    (fun z => z.1 ≤ (nth f.fBlocks.xs xn).fEnd.fWays.xs.length ∧ z.2.2.2.1 = z.2.1.length ∧ z.2.2.2.1 + z.2.2.2.2.2.count false + 1 ≤ l + seen.count false ∧ Sk f O v n (updB (waysQ f) xn ((waysQ f xn).take z.1)) z.2.2.2.2.2 z.2.1 fun y => P y ∨ y = xn) (fun z => (nth f.fBlocks.xs xn).fEnd.fWays.xs.length - z.1) (0, q, _, l - 1, c - 1, seen) (by repeat (first | exact trivial | refine ⟨rfl, ?_⟩)) ⟨Nat.zero_le _, by show l - 1 = q.length; omega, by show l - 1 + seen.count false + 1 ≤ _; omega, hS1⟩ PSub.refl ?_
  rintro g3 ⟨j, q1, A1, l1, c1, seen1⟩ ⟨hj, hl1, hm1, hS2⟩
  dsimp only at hj hl1 hm1 hS2 ⊢
  (repeat' (first | refine s_nil ?_ | (refine k_C ?_; first | refine s_seq ?_ | refine s_region ?_) | (refine k_E ?_; refine e_seq ?_) | (refine k_bin ?_; refine s_lss rfl rfl ?_)))
  (first | (refine k_C ?_; (refine s_ifd rfl ?_ ?_ <;> intro hc <;> try (exfalso; omega))))
  rotate_left
  · have hjE : j = (nth f.fBlocks.xs xn).fEnd.fWays.xs.length := by omega
    subst hjE
    have hS3 : Sk f O v n (waysQ f) seen1 q1 fun y => P y ∨ y = xn := by
      have := updB_ways (f := f) (x := xn)
      rw [show (nth f.fBlocks.xs xn).fEnd.fWays.xs.length = (waysQ f xn).length from rfl, this] at hS2
      exact hS2
    (repeat' (first | (refine k_C ?_; refine s_exit ?_) | (refine k_E ?_; first | refine e_seq_exit ?_ | refine e_bk_exit ?_ | refine e_bk ?_ | refine e_lp_exit ?_)))
    exact e_lp (q1, A1, l1, c1, seen1, fun y => P y ∨ y = xn) (by repeat (first | exact trivial | refine ⟨rfl, ?_⟩)) ⟨hl1, by show l1 + seen1.count false ≤ _; omega, hS3⟩ (by show l1 + seen1.count false < l + seen.count false; omega) PSub.refl
  have hjn : j < (nth f.fBlocks.xs xn).fEnd.fWays.xs.length := by omega
  have hwm : nth (nth f.fBlocks.xs xn).fEnd.fWays.xs j ∈ waysQ f xn := nth_mem hjn
  obtain ⟨hw0, hw1⟩ := hway xn hxn _ hwm
  have htn : (nth (nth f.fBlocks.xs xn).fEnd.fWays.xs j).fTo.toNat < f.fBlocks.xs.length := by omega
  have hwp := (hf.k (nth (nth f.fBlocks.xs xn).fEnd.fWays.xs j).fTo.toNat htn).p
  have hwi := (hf.k (nth (nth f.fBlocks.xs xn).fEnd.fWays.xs j).fTo.toNat htn).i
  have hsl := hS2.sl
  (repeat' (first | refine s_move ?_ | refine s_assign ?_ | refine s_nil ?_ | (refine k_C ?_; first | refine s_seq ?_ | refine s_region ?_ | refine s_skip ?_ | refine s_block ?_ | refine s_exit ?_ | (refine s_if rfl ?_ ?_ <;> intro hc)) | (refine k_E ?_; first | refine e_seq ?_ | refine e_seq_exit ?_ | refine e_bk_exit ?_) | (refine k_load ?_; first | refine s_ldB rfl rfl ?_ | refine s_ld rfl om rfl ?_ | refine s_ldS rfl rfl om rfl ?_ | refine s_ldSA rfl rfl om rfl ?_) | (refine k_bin ?_; refine s_add1 rfl rfl om ?_) | (refine k_fld ?_; first | refine s_fld rfl ?_ | refine s_fldB rfl ?_) | (refine k_idx ?_; first | refine s_idxI rfl rfl om om ?_ | refine s_idxS rfl rfl om ?_ | refine s_idxSI rfl rfl om om ?_) | (refine k_store ?_; first | refine s_stW _ rfl rfl ?_ | refine s_st _ rfl rfl om ?_) | (refine k_call ?_; refine s_len rfl ?_) | (refine s_alloc ?_; intro b)))
  · have hs : nth seen1 (nth (nth f.fBlocks.xs xn).fEnd.fWays.xs j).fTo.toNat = true := by assumption
    exact e_lp (j + 1, q1, A1, l1, c1, seen1) (by repeat (first | exact trivial | refine ⟨rfl, ?_⟩)) ⟨by show j + 1 ≤ _; omega, hl1, hm1, hS2.skip hjn hs⟩ (by show _ - _ < _ - _; omega) (PSub.take [1, 1, 1] rfl)
  have hs : nth seen1 (nth (nth f.fBlocks.xs xn).fEnd.fWays.xs j).fTo.toNat = false := by assumption
  obtain ⟨b14, rfl⟩ : ∃ q, q = b := ⟨_, rfl⟩
  refine s_loop (σ := Nat × Bool) (fun z => [(3, .int .i64 v), (4, .pointer (some ⟨b4, 0, none⟩)), (9, .slice (some ⟨b9, 0, none⟩) f.fBlocks.xs.length f.fBlocks.xs.length), (11, .slice A1 l1 c1), (63, .slice (nth f.fBlocks.xs xn).fEnd.fWays.A (nth f.fBlocks.xs xn).fEnd.fWays.xs.length (nth f.fBlocks.xs xn).fEnd.fWays.c), (64, .int .i64 (nth f.fBlocks.xs xn).fEnd.fWays.xs.length), (65, .int .i64 (j : Nat)), (14, .pointer (some ⟨b14, 0, none⟩)), (15, .bool z.2), (84, .slice (nth f.fBlocks.xs (nth (nth f.fBlocks.xs xn).fEnd.fWays.xs j).fTo.toNat).fParams.A (nth f.fBlocks.xs (nth (nth f.fBlocks.xs xn).fEnd.fWays.xs j).fTo.toNat).fParams.xs.length (nth f.fBlocks.xs (nth (nth f.fBlocks.xs xn).fEnd.fWays.xs j).fTo.toNat).fParams.c), (85, .int .i64 (nth f.fBlocks.xs (nth (nth f.fBlocks.xs xn).fEnd.fWays.xs j).fTo.toNat).fParams.xs.length), (86, .int .i64 (z.1 : Nat))]) (fun _ => [var 57 b14 (nth (nth f.fBlocks.xs xn).fEnd.fWays.xs j), own 3 A1 l1 c1 q1, own 4 (some ⟨b9, 0, none⟩) f.fBlocks.xs.length f.fBlocks.xs.length (seen1.set (nth (nth f.fBlocks.xs xn).fEnd.fWays.xs j).fTo.toNat true), var 38 b4 f])
    (fun z => z.1 ≤ (nth f.fBlocks.xs (nth (nth f.fBlocks.xs xn).fEnd.fWays.xs j).fTo.toNat).fParams.xs.length ∧ z.2 = decide (v ∈ (nth f.fBlocks.xs (nth (nth f.fBlocks.xs xn).fEnd.fWays.xs j).fTo.toNat).fParams.xs.take z.1)) (fun z => (nth f.fBlocks.xs (nth (nth f.fBlocks.xs xn).fEnd.fWays.xs j).fTo.toNat).fParams.xs.length - z.1) (0, false) (by repeat (first | exact trivial | refine ⟨rfl, ?_⟩)) ⟨Nat.zero_le _, by simp⟩ PSub.refl ?_
  rintro g4 ⟨i, gn⟩ ⟨hi, hgn⟩
  dsimp only at hi hgn ⊢
  (repeat' (first | refine s_nil ?_ | (refine k_C ?_; first | refine s_seq ?_ | refine s_region ?_) | (refine k_E ?_; refine e_seq ?_) | (refine k_bin ?_; refine s_lss rfl rfl ?_)))
  (first | (refine k_C ?_; (refine s_ifd rfl ?_ ?_ <;> intro hc <;> try (exfalso; omega))))
  · have hil : i < (nth f.fBlocks.xs (nth (nth f.fBlocks.xs xn).fEnd.fWays.xs j).fTo.toNat).fParams.xs.length := by omega
    have htk := take_nth (xs := (nth f.fBlocks.xs (nth (nth f.fBlocks.xs xn).fEnd.fWays.xs j).fTo.toNat).fParams.xs) hil
    (repeat' (first | refine s_move ?_ | refine s_assign ?_ | refine s_nil ?_ | (refine k_C ?_; first | refine s_seq ?_ | refine s_region ?_ | refine s_skip ?_ | refine s_block ?_) | (refine k_E ?_; first | refine e_seq ?_ | refine e_bk ?_) | (refine k_load ?_; refine s_ldS rfl rfl om rfl ?_) | (refine k_bin ?_; first | refine s_add1 rfl rfl om ?_ | refine s_eql rfl rfl ?_) | (refine k_idx ?_; refine s_idxS rfl rfl om ?_) | (refine k_guard ?_; first | refine s_on rfl rfl ?_ | refine s_off rfl rfl rfl rfl ?_ | (refine s_cases rfl rfl ?_ ?_ <;> intro hc)) | refine s_pick rfl ?_))
    · have hg : gn = true := by assumption
      subst hg
      exact e_lp (i + 1, true) (by repeat (first | exact trivial | refine ⟨rfl, ?_⟩)) ⟨by show i + 1 ≤ _; omega, by
        show true = decide (v ∈ (nth f.fBlocks.xs (nth (nth f.fBlocks.xs xn).fEnd.fWays.xs j).fTo.toNat).fParams.xs.take (i + 1))
        rw [← htk]; have := of_decide_eq_true hgn.symm; simp [this]⟩ (by show _ - _ < _ - _; omega) PSub.refl
    · have hg : gn = false := by assumption
      subst hg
      exact e_lp (i + 1, decide (nth (nth f.fBlocks.xs (nth (nth f.fBlocks.xs xn).fEnd.fWays.xs j).fTo.toNat).fParams.xs i = v)) (by repeat (first | exact trivial | refine ⟨rfl, ?_⟩)) ⟨by show i + 1 ≤ _; omega, by
        show _ = decide (v ∈ (nth f.fBlocks.xs (nth (nth f.fBlocks.xs xn).fEnd.fWays.xs j).fTo.toNat).fParams.xs.take (i + 1))
        rw [← htk]; have := of_decide_eq_false hgn.symm
        rw [Bool.eq_iff_iff]; simp [this, eq_comm]⟩ (by show _ - _ < _ - _; omega) PSub.refl
  have hiE : i = (nth f.fBlocks.xs (nth (nth f.fBlocks.xs xn).fEnd.fWays.xs j).fTo.toNat).fParams.xs.length := by omega
  rw [hiE, List.take_length] at hgn
  (repeat' (first | refine s_assign ?_ | refine s_nil ?_ | (refine k_C ?_; first | refine s_seq ?_ | refine s_region ?_ | refine s_block ?_ | refine s_exit ?_) | (refine k_E ?_; first | refine e_seq ?_ | refine e_seq_exit ?_ | refine e_bk_exit ?_ | refine e_lp_exit ?_)))
  refine s_loop (σ := Nat × Bool) (fun z => [(3, .int .i64 v), (4, .pointer (some ⟨b4, 0, none⟩)), (9, .slice (some ⟨b9, 0, none⟩) f.fBlocks.xs.length f.fBlocks.xs.length), (11, .slice A1 l1 c1), (63, .slice (nth f.fBlocks.xs xn).fEnd.fWays.A (nth f.fBlocks.xs xn).fEnd.fWays.xs.length (nth f.fBlocks.xs xn).fEnd.fWays.c), (64, .int .i64 (nth f.fBlocks.xs xn).fEnd.fWays.xs.length), (65, .int .i64 (j : Nat)), (14, .pointer (some ⟨b14, 0, none⟩)), (15, .bool z.2), (18, .int .i64 (z.1 : Nat))]) (fun _ => [var 57 b14 (nth (nth f.fBlocks.xs xn).fEnd.fWays.xs j), own 3 A1 l1 c1 q1, own 4 (some ⟨b9, 0, none⟩) f.fBlocks.xs.length f.fBlocks.xs.length (seen1.set (nth (nth f.fBlocks.xs xn).fEnd.fWays.xs j).fTo.toNat true), var 38 b4 f])
    (fun z => z.1 ≤ (nth f.fBlocks.xs (nth (nth f.fBlocks.xs xn).fEnd.fWays.xs j).fTo.toNat).fIns.xs.length + 1 ∧ (z.2 = true → v ∈ (nth f.fBlocks.xs (nth (nth f.fBlocks.xs xn).fEnd.fWays.xs j).fTo.toNat).fParams.xs ∨ scanB (nth f.fBlocks.xs (nth (nth f.fBlocks.xs xn).fEnd.fWays.xs j).fTo.toNat) v 0 = 2) ∧ (z.2 = false → v ∉ (nth f.fBlocks.xs (nth (nth f.fBlocks.xs xn).fEnd.fWays.xs j).fTo.toNat).fParams.xs ∧ scanB (nth f.fBlocks.xs (nth (nth f.fBlocks.xs xn).fEnd.fWays.xs j).fTo.toNat) v 0 = scanB (nth f.fBlocks.xs (nth (nth f.fBlocks.xs xn).fEnd.fWays.xs j).fTo.toNat) v z.1)) (fun z => (nth f.fBlocks.xs (nth (nth f.fBlocks.xs xn).fEnd.fWays.xs j).fTo.toNat).fIns.xs.length + 1 - z.1) (0, gn) (by repeat (first | exact trivial | refine ⟨rfl, ?_⟩)) ⟨Nat.zero_le _, fun h => .inl (of_decide_eq_true (hgn.symm.trans h)), fun h => ⟨of_decide_eq_false (hgn.symm.trans h), rfl⟩⟩ PSub.refl ?_
  rintro g5 ⟨kk, gg⟩ ⟨hkk, hg1, hg2⟩
  dsimp only at hkk hg1 hg2 ⊢
  have hcf := count_false_set (by omega) hs
  have hset : nth (seen1.set (nth (nth f.fBlocks.xs xn).fEnd.fWays.xs j).fTo.toNat true) (nth (nth f.fBlocks.xs xn).fEnd.fWays.xs j).fTo.toNat = true := by rw [nth_set (by omega), if_pos rfl]
  have hto : (((nth (nth f.fBlocks.xs xn).fEnd.fWays.xs j).fTo.toNat : Nat) : Int) = (nth (nth f.fBlocks.xs xn).fEnd.fWays.xs j).fTo := by omega
  cases gg with
  | true =>
    have hS4 := (hS2.see htn (.inl rfl) (fun e => absurd (congrArg List.length e) (by simp)) ((hg1 rfl).imp id .inl)).skip hjn hset
    (repeat' (first | refine s_move ?_ | refine s_nil ?_ | (refine k_C ?_; first | refine s_seq ?_ | refine s_region ?_ | refine s_skip ?_ | refine s_exit ?_ | refine s_iff rfl ?_) | (refine k_E ?_; first | refine e_seq ?_ | refine e_seq_exit ?_ | refine e_bk_exit ?_ | refine e_bk ?_ | refine e_lp_exit ?_) | (refine k_load ?_; first | refine s_ldB rfl rfl ?_ | refine s_ldSF rfl rfl om rfl ?_) | (refine k_bin ?_; first | refine s_add1 rfl rfl om ?_ | refine s_leq rfl rfl ?_) | (refine k_fld ?_; first | refine s_fld rfl ?_ | refine s_fldB rfl ?_) | (refine k_idx ?_; refine s_idxSI rfl rfl om om ?_) | (refine k_call ?_; refine s_len rfl ?_) | (refine k_guard ?_; first | refine s_on rfl rfl ?_ | refine s_off rfl rfl rfl rfl ?_ | (refine s_casesd rfl rfl ?_ ?_ <;> intro hc <;> try (exfalso; omega))) | refine s_not rfl ?_ | refine s_pick rfl ?_))
    all_goals exact e_lp (j + 1, q1, A1, l1, c1, seen1.set (nth (nth f.fBlocks.xs xn).fEnd.fWays.xs j).fTo.toNat true) (by repeat (first | exact trivial | refine ⟨rfl, ?_⟩)) ⟨by show j + 1 ≤ _; omega, hl1, by show l1 + (seen1.set (nth (nth f.fBlocks.xs xn).fEnd.fWays.xs j).fTo.toNat true).count false + 1 ≤ _; omega, hS4⟩ (by show _ - _ < _ - _; omega) (PSub.take [1, 1, 1] rfl)
  | false =>
    obtain ⟨hp, hsc⟩ := hg2 rfl
    by_cases hkl : kk ≤ (nth f.fBlocks.xs (nth (nth f.fBlocks.xs xn).fEnd.fWays.xs j).fTo.toNat).fIns.xs.length
    · (repeat' (first | refine s_move ?_ | refine s_nil ?_ | (refine k_C ?_; first | refine s_seq ?_ | refine s_region ?_ | refine s_skip ?_ | refine s_block ?_ | refine s_ift rfl ?_) | (refine k_E ?_; refine e_seq ?_) | (refine k_load ?_; first | refine s_ldB rfl rfl ?_ | refine s_ldSF rfl rfl om rfl ?_ | refine s_ldSA rfl rfl om rfl ?_) | (refine k_bin ?_; refine s_leq rfl rfl ?_) | (refine k_fld ?_; first | refine s_fld rfl ?_ | refine s_fldB rfl ?_) | (refine k_idx ?_; refine s_idxSI rfl rfl om om ?_) | (refine k_call ?_; refine s_len rfl ?_) | (refine k_guard ?_; first | refine s_on rfl rfl ?_ | (refine s_casesd rfl rfl ?_ ?_ <;> intro hc <;> try (exfalso; omega))) | refine s_not rfl ?_ | refine s_pick rfl ?_))
      refine s_call0 (touch15_spec (nth f.fBlocks.xs (nth (nth f.fBlocks.xs xn).fEnd.fWays.xs j).fTo.toNat) (hf.k (nth (nth f.fBlocks.xs xn).fEnd.fWays.xs j).fTo.toNat htn) (fun m hm => Nat.le_trans ((hfw.k (nth (nth f.fBlocks.xs xn).fEnd.fWays.xs j).fTo.toNat htn).wa m hm) (by omega)) kk v) rfl (fun w1 H => H.rdD (by infer_instance)) ?_
      rintro r L' ⟨rfl, rfl⟩
      have hst := scanB_step (v := v) hkl
      have htl := touchB_le (b := (nth f.fBlocks.xs (nth (nth f.fBlocks.xs xn).fEnd.fWays.xs j).fTo.toNat)) (k := kk) (v := v)
      generalize htb : touchB (nth f.fBlocks.xs (nth (nth f.fBlocks.xs xn).fEnd.fWays.xs j).fTo.toNat) kk v = tb at hst htl ⊢
      (repeat' (first | refine s_move ?_ | refine s_assign ?_ | refine s_nil ?_ | (refine k_C ?_; first | refine s_seq ?_ | refine s_region ?_ | refine s_skip ?_ | refine s_ret ?_ | (refine s_ifd rfl ?_ ?_ <;> intro hc <;> try (exfalso; omega))) | (refine k_E ?_; first | refine e_seq ?_ | refine e_seq_ret ?_ | refine e_bk_ret ?_ | refine e_bk ?_ | refine e_lp_ret ?_) | (refine k_bin ?_; first | refine s_add1 rfl rfl om ?_ | refine s_eql rfl rfl ?_)))
      · have ht : tb = 1 := by omega
        rw [if_neg (by omega), ht] at hst
        have := hx2 (use_back hQ hv hxn hwm hw0 hw1 hp (.inl (hsc.trans hst)))
        exact e_done rfl rfl [] (PSub.take [] rfl) ⟨by rw [this]; rfl, rfl⟩
      · exact e_lp (kk + 1, decide ((tb : Int) = 2)) (by repeat (first | exact trivial | refine ⟨rfl, ?_⟩)) ⟨by show kk + 1 ≤ _; omega, fun h => by
            have h := of_decide_eq_true h
            have ht : tb = 2 := by omega
            rw [if_neg (by omega), ht] at hst
            exact .inr (hsc.trans hst), fun h => by
            have h := of_decide_eq_false h
            have ht : tb = 0 := by omega
            rw [if_pos ht] at hst
            exact ⟨hp, hsc.trans hst⟩⟩ (by show _ - _ < _ - _; omega) PSub.refl
    · have hkE : kk = (nth f.fBlocks.xs (nth (nth f.fBlocks.xs xn).fEnd.fWays.xs j).fTo.toNat).fIns.xs.length + 1 := by omega
      rw [hkE, scanB_end] at hsc
      have hS4 := (hS2.see (q' := q1 ++ [(((nth (nth f.fBlocks.xs xn).fEnd.fWays.xs j).fTo.toNat : Nat) : Int)]) htn (.inr rfl) (fun _ h => hx2 (use_back hQ hv hxn hwm hw0 hw1 hp (.inr ⟨hsc, h⟩))) (.inr (.inr ⟨hsc, by simp⟩))).skip hjn hset
      rw [hto] at hS4
      (repeat' (first | refine s_move ?_ | refine s_assign ?_ | refine s_nil ?_ | (refine k_C ?_; first | refine s_seq ?_ | refine s_region ?_ | refine s_exit ?_ | refine s_ift rfl ?_ | refine s_iff rfl ?_) | (refine k_E ?_; first | refine e_seq ?_ | refine e_seq_exit ?_ | refine e_bk_exit ?_ | refine e_bk ?_ | refine e_lp_exit ?_) | (refine k_load ?_; first | refine s_ldB rfl rfl ?_ | refine s_ldSF rfl rfl om rfl ?_) | (refine k_bin ?_; first | refine s_add1 rfl rfl om ?_ | refine s_leq rfl rfl ?_) | (refine k_fld ?_; first | refine s_fld rfl ?_ | refine s_fldB rfl ?_) | (refine k_idx ?_; refine s_idxSI rfl rfl om om ?_) | (refine k_call ?_; refine s_len rfl ?_) | (refine k_guard ?_; first | refine s_off rfl rfl rfl rfl ?_ | (refine s_casesd rfl rfl ?_ ?_ <;> intro hc <;> try (exfalso; omega))) | refine s_not rfl ?_ | refine s_pick rfl ?_ | (refine s_app1 _ (fun _ => rfl) rfl om ?_; intro v A c)))
      exact e_lp (j + 1, q1 ++ [(nth (nth f.fBlocks.xs xn).fEnd.fWays.xs j).fTo], A, l1 + 1, c, seen1.set (nth (nth f.fBlocks.xs xn).fEnd.fWays.xs j).fTo.toNat true) (by repeat (first | exact trivial | refine ⟨rfl, ?_⟩)) ⟨by show j + 1 ≤ _; omega, by show l1 + 1 = (q1 ++ [_]).length; rw [List.length_append, hl1]; rfl, by show l1 + 1 + (seen1.set (nth (nth f.fBlocks.xs xn).fEnd.fWays.xs j).fTo.toNat true).count false + 1 ≤ _; omega, hS4⟩ (by show _ - _ < _ - _; omega) (PSub.take [1, 1, 1] rfl)
end Go.Proofs.Ytfplmdjlgjgbgaa
