/- Layer 15: spots, walked. -/
import Derived.Test.YtfplmdjlgjgbgaaV26
namespace Go.Proofs.Ytfplmdjlgjgbgaa
set_option linter.unusedVariables false
set_option linter.unusedSimpArgs false
open Go Go.RowKit

theorem filter_takeL {us : List Int} {p : Int → Bool} {z : Nat} (h : z < us.length) : (us.take (z + 1)).filter p = (us.take z).filter p ++ if p (nth us z) = true then [nth us z] else [] := by
  rw [← takeN h, List.filter_append]
  cases e : p (nth us z) <;> simp [e]
theorem rowsF_succ {f : SsaFunc} {I O : Nat → Int → Bool} {N : Nat} : rowsF f I O (N + 1) = rowsF f I O N ++ if nth (reachB7 f) N = true then rowsB f I O N else [] := by
  unfold rowsF
  rw [List.range_succ, List.flatMap_append]; simp
set_option maxHeartbeats 8000000 in
theorem spots15_spec (f : SsaFunc) (hf : OkF f) (hfw : FewFn f) (hG : GoodF f) (I O : Nat → Int → Bool) (hQ : FixQ f I O) :
    Spec Try.prog 16 [.agg (Enc.enc f).toArray] [] (fun ok w => RdD ok w f) fun r L' => ∃ A c, ∃ ss : List (Sl Int), r = .slice A ss.length c ∧ ss.length ≤ 1500 ∧ ss.map (·.xs) = rowsF f I O f.fBlocks.xs.length ∧ L' = [own 23 A ss.length c ss, rws 3 ss] := by
  refine spec_of Try.func16 rfl rfl fun w0 f0 hR => ?_
  have hnb := hfw.b
  have hml := madeAll_few hfw
  (repeat' (first | refine s_assign ?_ | refine s_nil ?_ | (refine k_C ?_; first | refine s_seq ?_ | refine s_region ?_) | (refine k_E ?_; refine e_seq ?_) | (refine k_load ?_; refine s_ldBW rfl rfl ?_) | (refine s_box _ rfl ?_; intro b) | (refine s_lit [] rfl (by decide) rfl ?_; intro b)))
  rename_i b1
  obtain ⟨b3, rfl⟩ : ∃ q, q = b := ⟨_, rfl⟩
  refine s_call0 (all15_spec f hf) rfl (fun w1 H => H.rdD (by infer_instance)) ?_
  rintro r L' ⟨A4, c4, rfl, rfl⟩
  (repeat' (first | refine s_move ?_ | refine s_assign ?_ | refine s_nil ?_ | (refine k_C ?_; first | refine s_seq ?_ | refine s_region ?_ | refine s_block ?_) | (refine k_E ?_; refine e_seq ?_) | (refine k_load ?_; refine s_ldB rfl rfl ?_) | (refine k_fld ?_; refine s_fldB rfl ?_) | (refine k_call ?_; refine s_len rfl ?_)))
  refine s_loop (σ := Nat × Option Addr × Nat × Nat × List (Sl Int)) (fun q => [(1, .pointer (some ⟨b1, 0, none⟩)), (4, .slice A4 (madeAll f.fBlocks.xs).length c4), (22, .slice f.fBlocks.A f.fBlocks.xs.length f.fBlocks.c), (23, .int .i64 f.fBlocks.xs.length), (24, .int .i64 (q.1 : Nat)), (3, .slice q.2.1 q.2.2.1 q.2.2.2.1)])
    (fun q => [own 23 q.2.1 q.2.2.1 q.2.2.2.1 q.2.2.2.2, rws 3 q.2.2.2.2, own 3 A4 (madeAll f.fBlocks.xs).length c4 (madeAll f.fBlocks.xs), var 38 b1 f]) (fun q => q.1 ≤ f.fBlocks.xs.length ∧ q.2.2.1 = q.2.2.2.2.length ∧ q.2.2.1 ≤ 50 * q.1 ∧ q.2.2.2.2.map (·.xs) = rowsF f I O q.1) (fun q => f.fBlocks.xs.length - q.1)
    (0, some ⟨b3, 0, none⟩, 0, 0, []) (by repeat (first | exact trivial | refine ⟨rfl, ?_⟩)) ⟨Nat.zero_le _, rfl, Nat.le_refl _, rfl⟩ ((PSub.nilRws (α := Int) 3).trans (PSub.take [2, 0, 0, 0] rfl)) ?_
  rintro g ⟨n, Ao, l, co, ss⟩ ⟨hn, hl, hll, hss⟩
  dsimp only at hn hl hll hss ⊢
  (repeat' (first | refine s_nil ?_ | (refine k_C ?_; first | refine s_seq ?_ | refine s_region ?_) | (refine k_E ?_; refine e_seq ?_) | (refine k_bin ?_; refine s_lss rfl rfl ?_)))
  (first | (refine k_C ?_; (refine s_ifd rfl ?_ ?_ <;> intro hc <;> try (exfalso; omega))))
  rotate_left
  · have hnE : n = f.fBlocks.xs.length := by omega
    subst hnE
    subst hl
    (repeat' (first | refine s_move ?_ | refine s_assign ?_ | refine s_nil ?_ | (refine k_C ?_; first | refine s_seq ?_ | refine s_region ?_ | refine s_exit ?_ | refine s_ret ?_) | (refine k_E ?_; first | refine e_seq ?_ | refine e_seq_exit ?_ | refine e_bk_exit ?_ | refine e_lp_exit ?_)))
    exact e_done rfl rfl _ (PSub.take [0, 0] rfl) ⟨Ao, co, ss, rfl, by omega, hss, rfl⟩
  have hnn : n < f.fBlocks.xs.length := by omega
  have hbk := hfw.k n hnn
  have hbp := hbk.p
  have hbi := hbk.i
  subst hl
  (repeat' (first | refine s_move ?_ | refine s_assign ?_ | refine s_nil ?_ | (refine k_C ?_; first | refine s_seq ?_ | refine s_region ?_ | refine s_skip ?_ | refine s_block ?_) | (refine k_E ?_; refine e_seq ?_) | (refine k_load ?_; first | refine s_ldBW rfl rfl ?_ | refine s_ldSA rfl rfl om rfl ?_) | (refine k_idx ?_; refine s_idxS rfl rfl om ?_) | (refine k_store ?_; refine s_stW _ rfl rfl ?_) | (refine s_alloc ?_; intro b)))
  obtain ⟨b6, rfl⟩ : ∃ q, q = b := ⟨_, rfl⟩
  refine s_call0 (reach7_spec f hf.fewF) rfl (fun w1 H => H.rdD (by infer_instance)) ?_
  rintro r L' ⟨A3, c3, rfl, rfl⟩
  (repeat' (first | refine s_move ?_ | refine s_assign ?_ | refine s_nil ?_ | (refine k_C ?_; first | refine s_seq ?_ | refine s_region ?_ | refine s_skip ?_ | refine s_block ?_ | refine s_exit ?_ | (refine s_if rfl ?_ ?_ <;> intro hc)) | (refine k_E ?_; first | refine e_seq ?_ | refine e_seq_exit ?_ | refine e_bk_exit ?_) | (refine k_load ?_; first | refine s_ldB rfl rfl ?_ | refine s_ld rfl om rfl ?_) | (refine k_bin ?_; refine s_add1 rfl rfl om ?_) | (refine k_fld ?_; refine s_fldB rfl ?_) | (refine k_idx ?_; refine s_idx rfl rfl om ?_) | (refine k_call ?_; first | refine s_len rfl ?_ | (refine s_appS rfl rfl om ?_; intro A c)) | refine s_not rfl ?_ | (refine s_lit [] rfl (by decide) rfl ?_; intro b)))
  · have hrn : nth (reachB7 f) n = false := by simpa using hc
    exact e_lp (n + 1, Ao, ss.length, co, ss) (by repeat (first | exact trivial | refine ⟨rfl, ?_⟩)) ⟨by show n + 1 ≤ _; omega, rfl, by show ss.length ≤ 50 * (n + 1); omega, by show ss.map (·.xs) = _; rw [rowsF_succ, hss, hrn]; simp⟩ (by show _ - _ < _ - _; omega) (PSub.take [2, 2, 2, 2] rfl)
  have hrn : nth (reachB7 f) n = true := by simpa using hc
  have hI : I n = liveB (nth f.fBlocks.xs n) (O n) 0 := (hQ.at_ n hnn).1
  refine s_loop (σ := Nat × Option Addr × Nat × Nat × List Int) (fun q => [(1, .pointer (some ⟨b1, 0, none⟩)), (4, .slice A4 (madeAll f.fBlocks.xs).length c4), (22, .slice f.fBlocks.A f.fBlocks.xs.length f.fBlocks.c), (23, .int .i64 f.fBlocks.xs.length), (24, .int .i64 (n : Nat)), (3, .slice Ao ss.length co), (5, .int .i64 (n : Nat)), (6, .pointer (some ⟨b6, 0, none⟩)), (39, .slice A4 (madeAll f.fBlocks.xs).length c4), (40, .int .i64 (madeAll f.fBlocks.xs).length), (41, .int .i64 (q.1 : Nat)), (7, .slice q.2.1 q.2.2.1 q.2.2.2.1)])
    (fun q => [own 3 q.2.1 q.2.2.1 q.2.2.2.1 q.2.2.2.2, own 23 Ao ss.length co ss, rws 3 ss, var 31 b6 (nth f.fBlocks.xs n), own 3 A4 (madeAll f.fBlocks.xs).length c4 (madeAll f.fBlocks.xs), var 38 b1 f]) (fun q => q.1 ≤ (madeAll f.fBlocks.xs).length ∧ q.2.2.1 = q.2.2.2.2.length ∧ q.2.2.1 ≤ 60 + q.1 ∧ q.2.2.2.2 = (nth f.fBlocks.xs n).fParams.xs ++ ((madeAll f.fBlocks.xs).take q.1).filter (fun v => !decide (v ∈ (nth f.fBlocks.xs n).fParams.xs) && I n v)) (fun q => (madeAll f.fBlocks.xs).length - q.1)
    (0, A, 0 + (nth f.fBlocks.xs n).fParams.xs.length, c, [] ++ (nth f.fBlocks.xs n).fParams.xs) (by repeat (first | exact trivial | refine ⟨rfl, ?_⟩)) ⟨Nat.zero_le _, by show 0 + _ = ([] ++ _).length; simp, by show 0 + _ ≤ 60 + 0; omega, by show [] ++ _ = _ ++ List.filter _ []; simp⟩ (PSub.take [0, 2, 2, 1, 1, 1] rfl) ?_
  rintro g2 ⟨z, A7, l7, c7, xs7⟩ ⟨hz, hl7, hll7, hx7⟩
  dsimp only at hz hl7 hll7 hx7 ⊢
  (repeat' (first | refine s_nil ?_ | (refine k_C ?_; first | refine s_seq ?_ | refine s_region ?_) | (refine k_E ?_; refine e_seq ?_) | (refine k_bin ?_; refine s_lss rfl rfl ?_)))
  (first | (refine k_C ?_; (refine s_ifd rfl ?_ ?_ <;> intro hc <;> try (exfalso; omega))))
  rotate_left
  · have hzE : z = (madeAll f.fBlocks.xs).length := by omega
    subst hzE
    rw [List.take_length] at hx7
    have hx7 : xs7 = entryR f I n := hx7
    subst hl7
    (repeat' (first | refine s_move ?_ | (refine k_C ?_; first | refine s_seq ?_ | refine s_region ?_ | refine s_exit ?_) | (refine k_E ?_; first | refine e_seq ?_ | refine e_seq_exit ?_ | refine e_bk_exit ?_ | refine e_lp_exit ?_)))
    refine s_app1 (⟨A7, c7, xs7⟩ : Sl Int) (fun _ => rfl) rfl (by omega) ?_
    intro w5 A5 c5
    (repeat' (first | refine s_move ?_ | refine s_assign ?_ | refine s_nil ?_ | (refine k_C ?_; first | refine s_seq ?_ | refine s_region ?_ | refine s_block ?_) | (refine k_E ?_; refine e_seq ?_) | (refine k_load ?_; refine s_ldB rfl rfl ?_) | (refine k_fld ?_; refine s_fldB rfl ?_) | (refine k_call ?_; refine s_len rfl ?_)))
    refine s_loop (σ := Nat × Option Addr × Nat × Nat × List (Sl Int)) (fun q => [(1, .pointer (some ⟨b1, 0, none⟩)), (4, .slice A4 (madeAll f.fBlocks.xs).length c4), (22, .slice f.fBlocks.A f.fBlocks.xs.length f.fBlocks.c), (23, .int .i64 f.fBlocks.xs.length), (24, .int .i64 (n : Nat)), (5, .int .i64 (n : Nat)), (6, .pointer (some ⟨b6, 0, none⟩)), (77, .slice (nth f.fBlocks.xs n).fIns.A (nth f.fBlocks.xs n).fIns.xs.length (nth f.fBlocks.xs n).fIns.c), (78, .int .i64 (nth f.fBlocks.xs n).fIns.xs.length), (79, .int .i64 (q.1 : Nat)), (3, .slice q.2.1 q.2.2.1 q.2.2.2.1)])
      (fun q => [own 23 q.2.1 q.2.2.1 q.2.2.2.1 q.2.2.2.2, rws 3 q.2.2.2.2, var 31 b6 (nth f.fBlocks.xs n), own 3 A4 (madeAll f.fBlocks.xs).length c4 (madeAll f.fBlocks.xs), var 38 b1 f]) (fun q => q.1 ≤ (nth f.fBlocks.xs n).fIns.xs.length ∧ q.2.2.1 = q.2.2.2.2.length ∧ q.2.2.1 ≤ 50 * n + 1 + q.1 ∧ q.2.2.2.2.map (·.xs) = rowsF f I O n ++ entryR f I n :: (List.range q.1).map (insR f O n)) (fun q => (nth f.fBlocks.xs n).fIns.xs.length - q.1)
      (0, A5, ss.length + 1, c5, ss ++ [(⟨A7, c7, xs7⟩ : Sl Int)]) (by repeat (first | exact trivial | refine ⟨rfl, ?_⟩)) ⟨Nat.zero_le _, by simp, by show ss.length + 1 ≤ _; omega, by show (ss ++ [_]).map _ = _; rw [List.map_append, hss]; simp [hx7]⟩ ((PSub.take [2, 0, 0, 0, 0, 0] rfl).trans ((PSub.join rfl).trans (PSub.take [1, 0, 0, 0, 0] rfl))) ?_
    rintro g3 ⟨k, A6, l6, c6, ss6⟩ ⟨hk, hl6, hll6, hss6⟩
    dsimp only at hk hl6 hll6 hss6 ⊢
    (repeat' (first | refine s_nil ?_ | (refine k_C ?_; first | refine s_seq ?_ | refine s_region ?_) | (refine k_E ?_; refine e_seq ?_) | (refine k_bin ?_; refine s_lss rfl rfl ?_)))
    (first | (refine k_C ?_; (refine s_ifd rfl ?_ ?_ <;> intro hc <;> try (exfalso; omega))))
    rotate_left
    · have hkE : k = (nth f.fBlocks.xs n).fIns.xs.length := by omega
      subst hkE
      (repeat' (first | refine s_move ?_ | refine s_nil ?_ | (refine k_C ?_; first | refine s_region ?_ | refine s_exit ?_) | (refine k_E ?_; first | refine e_seq ?_ | refine e_seq_exit ?_ | refine e_bk_exit ?_ | refine e_bk ?_ | refine e_lp_exit ?_) | (refine k_bin ?_; refine s_add1 rfl rfl om ?_)))
      exact e_lp (n + 1, A6, l6, c6, ss6) (by repeat (first | exact trivial | refine ⟨rfl, ?_⟩)) ⟨by show n + 1 ≤ _; omega, hl6, by show l6 ≤ 50 * (n + 1); omega, by show ss6.map (·.xs) = _; rw [rowsF_succ, hss6, hrn]; rfl⟩ (by show _ - _ < _ - _; omega) (PSub.take [0, 0, 1, 1] rfl)
    have hkl : k < (nth f.fBlocks.xs n).fIns.xs.length := by omega
    subst hl6
    (repeat' (first | refine s_move ?_ | refine s_assign ?_ | refine s_nil ?_ | (refine k_C ?_; first | refine s_seq ?_ | refine s_region ?_ | refine s_skip ?_ | refine s_block ?_) | (refine k_E ?_; refine e_seq ?_) | (refine k_load ?_; first | refine s_ldB rfl rfl ?_ | refine s_ldSA rfl rfl om rfl ?_) | (refine k_bin ?_; refine s_neq rfl rfl ?_) | (refine k_fld ?_; refine s_fldB rfl ?_) | (refine k_idx ?_; refine s_idxS rfl rfl om ?_) | (refine k_store ?_; refine s_stW _ rfl rfl ?_) | (refine s_alloc ?_; intro b) | (refine s_lit [] rfl (by decide) rfl ?_; intro b)))
    obtain ⟨bL, rfl⟩ : ∃ q, q = b := ⟨_, rfl⟩
    obtain ⟨b14, rfl⟩ : ∃ q, q = b := ⟨_, rfl⟩
    refine s_cutI (σ := Option Addr × Nat × List Int) (fun q => [(1, .pointer (some ⟨b1, 0, none⟩)), (4, .slice A4 (madeAll f.fBlocks.xs).length c4), (22, .slice f.fBlocks.A f.fBlocks.xs.length f.fBlocks.c), (23, .int .i64 f.fBlocks.xs.length), (24, .int .i64 (n : Nat)), (5, .int .i64 (n : Nat)), (6, .pointer (some ⟨b6, 0, none⟩)), (77, .slice (nth f.fBlocks.xs n).fIns.A (nth f.fBlocks.xs n).fIns.xs.length (nth f.fBlocks.xs n).fIns.c), (78, .int .i64 (nth f.fBlocks.xs n).fIns.xs.length), (79, .int .i64 (k : Nat)), (3, .slice A6 ss6.length c6), (13, .int .i64 (k : Nat)), (14, .pointer (some ⟨b14, 0, none⟩)), (15, .slice q.1 q.2.2.length q.2.1)]) (fun q => [own 3 q.1 q.2.2.length q.2.1 q.2.2, var 35 b14 (nth (nth f.fBlocks.xs n).fIns.xs k), own 23 A6 ss6.length c6 ss6, rws 3 ss6, var 31 b6 (nth f.fBlocks.xs n), own 3 A4 (madeAll f.fBlocks.xs).length c4 (madeAll f.fBlocks.xs), var 38 b1 f]) (fun q => q.2.2 = if (nth (nth f.fBlocks.xs n).fIns.xs k).fDst ≠ 0 then [(nth (nth f.fBlocks.xs n).fIns.xs k).fDst] else []) ?_ ?_
    · (repeat' (first | refine s_move ?_ | refine s_assign ?_ | refine s_nil ?_ | (refine k_C ?_; first | refine s_region ?_ | refine s_skip ?_ | (refine s_ifn rfl ?_ ?_ <;> intro hc <;> try (exfalso; omega))) | (refine k_load ?_; refine s_ldB rfl rfl ?_) | (refine k_fld ?_; refine s_fldB rfl ?_) | (refine s_app1 _ (fun _ => rfl) rfl om ?_; intro v A c)))
      · exact e_ct (A, c, [(nth (nth f.fBlocks.xs n).fIns.xs k).fDst]) (by repeat (first | exact trivial | refine ⟨rfl, ?_⟩)) (by show _ = _; rw [if_pos (by assumption)]) PSub.refl
      · exact e_ct (some ⟨bL, 0, none⟩, 0, []) (by repeat (first | exact trivial | refine ⟨rfl, ?_⟩)) (by show _ = _; rw [if_neg (by simpa using ‹_›)]) PSub.refl
    rintro g4 ⟨A9, c9, xs9⟩ hx9
    dsimp only at hx9 ⊢
    have hl9 : xs9.length ≤ 1 := by rw [hx9]; split <;> simp
    (repeat' (first | refine s_move ?_ | refine s_nil ?_ | (refine k_C ?_; first | refine s_seq ?_ | refine s_region ?_ | refine s_block ?_) | (refine k_E ?_; refine e_seq ?_) | (refine k_call ?_; refine s_len rfl ?_)))
    refine s_loop (σ := Nat × Option Addr × Nat × Nat × List Int) (fun q => [(1, .pointer (some ⟨b1, 0, none⟩)), (4, .slice A4 (madeAll f.fBlocks.xs).length c4), (22, .slice f.fBlocks.A f.fBlocks.xs.length f.fBlocks.c), (23, .int .i64 f.fBlocks.xs.length), (24, .int .i64 (n : Nat)), (5, .int .i64 (n : Nat)), (6, .pointer (some ⟨b6, 0, none⟩)), (77, .slice (nth f.fBlocks.xs n).fIns.A (nth f.fBlocks.xs n).fIns.xs.length (nth f.fBlocks.xs n).fIns.c), (78, .int .i64 (nth f.fBlocks.xs n).fIns.xs.length), (79, .int .i64 (k : Nat)), (3, .slice A6 ss6.length c6), (13, .int .i64 (k : Nat)), (14, .pointer (some ⟨b14, 0, none⟩)), (93, .slice A4 (madeAll f.fBlocks.xs).length c4), (94, .int .i64 (madeAll f.fBlocks.xs).length), (95, .int .i64 (q.1 : Nat)), (15, .slice q.2.1 q.2.2.1 q.2.2.2.1)])
      (fun q => [own 3 q.2.1 q.2.2.1 q.2.2.2.1 q.2.2.2.2, var 35 b14 (nth (nth f.fBlocks.xs n).fIns.xs k), own 23 A6 ss6.length c6 ss6, rws 3 ss6, var 31 b6 (nth f.fBlocks.xs n), own 3 A4 (madeAll f.fBlocks.xs).length c4 (madeAll f.fBlocks.xs), var 38 b1 f]) (fun q => q.1 ≤ (madeAll f.fBlocks.xs).length ∧ q.2.2.1 = q.2.2.2.2.length ∧ q.2.2.1 ≤ 1 + q.1 ∧ q.2.2.2.2 = (if (nth (nth f.fBlocks.xs n).fIns.xs k).fDst ≠ 0 then [(nth (nth f.fBlocks.xs n).fIns.xs k).fDst] else []) ++ ((madeAll f.fBlocks.xs).take q.1).filter (fun v => !decide (v = (nth (nth f.fBlocks.xs n).fIns.xs k).fDst) && liveB (nth f.fBlocks.xs n) (O n) (k + 1) v)) (fun q => (madeAll f.fBlocks.xs).length - q.1)
      (0, A9, xs9.length, c9, xs9) (by repeat (first | exact trivial | refine ⟨rfl, ?_⟩)) ⟨Nat.zero_le _, rfl, by show xs9.length ≤ 1 + 0; omega, by show xs9 = _ ++ List.filter _ []; rw [hx9]; simp⟩ PSub.refl ?_
    rintro g5 ⟨z, A7, l7, c7, xs7⟩ ⟨hz, hl7, hll7, hx7⟩
    dsimp only at hz hl7 hll7 hx7 ⊢
    (repeat' (first | refine s_nil ?_ | (refine k_C ?_; first | refine s_seq ?_ | refine s_region ?_) | (refine k_E ?_; refine e_seq ?_) | (refine k_bin ?_; refine s_lss rfl rfl ?_)))
    (first | (refine k_C ?_; (refine s_ifd rfl ?_ ?_ <;> intro hc <;> try (exfalso; omega))))
    rotate_left
    · have hzE : z = (madeAll f.fBlocks.xs).length := by omega
      subst hzE
      rw [List.take_length] at hx7
      have hx7 : xs7 = insR f O n k := hx7
      subst hl7
      (repeat' (first | refine s_move ?_ | (refine k_C ?_; first | refine s_region ?_ | refine s_exit ?_) | (refine k_E ?_; first | refine e_seq ?_ | refine e_seq_exit ?_ | refine e_bk_exit ?_ | refine e_lp_exit ?_)))
      refine s_app1 (⟨A7, c7, xs7⟩ : Sl Int) (fun _ => rfl) rfl (by omega) ?_
      intro w5 A5 c5
      (repeat' (first | refine s_move ?_ | refine s_assign ?_ | refine s_nil ?_ | (refine k_C ?_; refine s_region ?_) | (refine k_E ?_; first | refine e_seq ?_ | refine e_bk ?_) | (refine k_bin ?_; refine s_add1 rfl rfl om ?_)))
      exact e_lp (k + 1, A5, ss6.length + 1, c5, ss6 ++ [(⟨A7, c7, xs7⟩ : Sl Int)]) (by repeat (first | exact trivial | refine ⟨rfl, ?_⟩)) ⟨by show k + 1 ≤ _; omega, by simp, by show ss6.length + 1 ≤ _ + (k + 1); omega, by show (ss6 ++ [_]).map _ = _; rw [List.map_append, hss6, List.range_succ, List.map_append]; simp [hx7]⟩ (by show _ - _ < _ - _; omega) ((PSub.take [3, 0, 1, 1, 1, 1] rfl).trans ((PSub.join rfl).trans (PSub.take [1, 0, 0, 0, 0] rfl)))
    have hzl : z < (madeAll f.fBlocks.xs).length := by omega
    have hvm : nth (madeAll f.fBlocks.xs) z ∈ (madeAll f.fBlocks.xs) := nth_mem hzl
    have hft := filter_takeL (p := (fun v => !decide (v = (nth (nth f.fBlocks.xs n).fIns.xs k).fDst) && liveB (nth f.fBlocks.xs n) (O n) (k + 1) v)) hzl
    generalize hvv : nth (madeAll f.fBlocks.xs) z = vv at hvm hft
    have hv0 := hG.pos vv hvm
    (repeat' (first | refine s_move ?_ | refine s_assign ?_ | refine s_nil ?_ | (refine k_C ?_; first | refine s_seq ?_ | refine s_region ?_ | refine s_skip ?_ | refine s_block ?_ | refine s_iff rfl ?_) | (refine k_E ?_; first | refine e_seq ?_ | refine e_bk ?_) | (refine k_load ?_; first | refine s_ldB rfl rfl ?_ | refine s_ldBW rfl rfl ?_ | refine s_ld rfl om rfl ?_) | (refine k_bin ?_; first | refine s_add1 rfl rfl om ?_ | refine s_neq rfl rfl ?_) | (refine k_fld ?_; refine s_fldB rfl ?_) | (refine k_idx ?_; refine s_idx rfl rfl om ?_) | (refine k_guard ?_; first | refine s_on rfl rfl ?_ | refine s_off rfl rfl rfl rfl ?_ | (refine s_casesn rfl rfl ?_ ?_ <;> intro hc <;> try (exfalso; omega))) | refine s_pick rfl ?_))
    · rw [hvv] at hc ⊢
      have hsp := later15_spec f hf hfw (fun b hb => hG.way hb) I O hQ n (k + 1) hnn (by omega) vv (by omega)
      refine s_call0 hsp rfl (fun w1 H => H.rdD (by infer_instance)) ?_
      rintro r L' ⟨rfl, rfl⟩
      (repeat' (first | refine s_move ?_ | refine s_assign ?_ | refine s_nil ?_ | (refine k_C ?_; first | refine s_region ?_ | refine s_skip ?_ | (refine s_if rfl ?_ ?_ <;> intro hc)) | (refine k_E ?_; first | refine e_seq ?_ | refine e_bk ?_) | (refine k_bin ?_; refine s_add1 rfl rfl om ?_) | refine s_pick rfl ?_ | (refine s_app1 _ (fun _ => rfl) rfl om ?_; intro v A c)))
      · have h1 : liveB (nth f.fBlocks.xs n) (O n) (k + 1) vv = true := by assumption
        have h2 : ¬ vv = (nth (nth f.fBlocks.xs n).fIns.xs k).fDst := by assumption
        rw [if_pos (by simp [h1, h2])] at hft
        exact e_lp (z + 1, A, l7 + 1, c, xs7 ++ [vv]) (by repeat (first | exact trivial | refine ⟨rfl, ?_⟩)) ⟨by show z + 1 ≤ _; omega, by show l7 + 1 = (xs7 ++ [vv]).length; rw [List.length_append, hl7]; rfl, by show l7 + 1 ≤ 1 + (z + 1); omega, by show xs7 ++ [vv] = _ ++ ((madeAll f.fBlocks.xs).take (z + 1)).filter _; rw [hft, hx7]; simp⟩ (by show _ - _ < _ - _; omega) PSub.refl
      · have h1 : liveB (nth f.fBlocks.xs n) (O n) (k + 1) vv = false := by assumption
        rw [if_neg (by simp [h1])] at hft
        exact e_lp (z + 1, A7, l7, c7, xs7) (by repeat (first | exact trivial | refine ⟨rfl, ?_⟩)) ⟨by show z + 1 ≤ _; omega, hl7, by show l7 ≤ 1 + (z + 1); omega, by show xs7 = _ ++ ((madeAll f.fBlocks.xs).take (z + 1)).filter _; rw [hft, hx7]; simp⟩ (by show _ - _ < _ - _; omega) PSub.refl
    · rw [hvv] at hc
      have h2 : vv = (nth (nth f.fBlocks.xs n).fIns.xs k).fDst := by simpa using hc
      rw [if_neg (by simp [h2])] at hft
      exact e_lp (z + 1, A7, l7, c7, xs7) (by repeat (first | exact trivial | refine ⟨rfl, ?_⟩)) ⟨by show z + 1 ≤ _; omega, hl7, by show l7 ≤ 1 + (z + 1); omega, by show xs7 = _ ++ ((madeAll f.fBlocks.xs).take (z + 1)).filter _; rw [hft, hx7]; simp⟩ (by show _ - _ < _ - _; omega) PSub.refl
  have hzl : z < (madeAll f.fBlocks.xs).length := by omega
  have hvm : nth (madeAll f.fBlocks.xs) z ∈ (madeAll f.fBlocks.xs) := nth_mem hzl
  have hft := filter_takeL (p := (fun v => !decide (v ∈ (nth f.fBlocks.xs n).fParams.xs) && I n v)) hzl
  generalize hvv : nth (madeAll f.fBlocks.xs) z = vv at hvm hft
  have hv0 := hG.pos vv hvm
  (repeat' (first | refine s_move ?_ | refine s_assign ?_ | refine s_nil ?_ | (refine k_C ?_; first | refine s_seq ?_ | refine s_region ?_ | refine s_skip ?_ | refine s_block ?_) | (refine k_E ?_; refine e_seq ?_) | (refine k_load ?_; first | refine s_ldB rfl rfl ?_ | refine s_ld rfl om rfl ?_) | (refine k_fld ?_; refine s_fldB rfl ?_) | (refine k_idx ?_; refine s_idx rfl rfl om ?_) | (refine k_call ?_; refine s_len rfl ?_)))
  rw [hvv]
  refine s_loop (σ := Nat × Bool) (fun q => [(1, .pointer (some ⟨b1, 0, none⟩)), (4, .slice A4 (madeAll f.fBlocks.xs).length c4), (22, .slice f.fBlocks.A f.fBlocks.xs.length f.fBlocks.c), (23, .int .i64 f.fBlocks.xs.length), (24, .int .i64 (n : Nat)), (3, .slice Ao ss.length co), (5, .int .i64 (n : Nat)), (6, .pointer (some ⟨b6, 0, none⟩)), (39, .slice A4 (madeAll f.fBlocks.xs).length c4), (40, .int .i64 (madeAll f.fBlocks.xs).length), (41, .int .i64 (z : Nat)), (7, .slice A7 l7 c7), (9, .int .i64 vv), (46, .slice (nth f.fBlocks.xs n).fParams.A (nth f.fBlocks.xs n).fParams.xs.length (nth f.fBlocks.xs n).fParams.c), (47, .int .i64 (nth f.fBlocks.xs n).fParams.xs.length), (48, .int .i64 (q.1 : Nat)), (10, .bool q.2)]) (fun _ => [own 3 A7 l7 c7 xs7, own 23 Ao ss.length co ss, rws 3 ss, var 31 b6 (nth f.fBlocks.xs n), own 3 A4 (madeAll f.fBlocks.xs).length c4 (madeAll f.fBlocks.xs), var 38 b1 f])
    (fun q => q.1 ≤ (nth f.fBlocks.xs n).fParams.xs.length ∧ (q.2 = true ↔ vv ∈ (nth f.fBlocks.xs n).fParams.xs.take q.1)) (fun q => (nth f.fBlocks.xs n).fParams.xs.length - q.1) (0, false) (by repeat (first | exact trivial | refine ⟨rfl, ?_⟩)) ⟨Nat.zero_le _, by simp⟩ PSub.refl ?_
  rintro g5 ⟨m, pa⟩ ⟨hm, hpa⟩
  dsimp only at hm hpa ⊢
  (repeat' (first | refine s_nil ?_ | (refine k_C ?_; first | refine s_seq ?_ | refine s_region ?_) | (refine k_E ?_; refine e_seq ?_) | (refine k_bin ?_; refine s_lss rfl rfl ?_)))
  (first | (refine k_C ?_; (refine s_ifd rfl ?_ ?_ <;> intro hc <;> try (exfalso; omega))))
  · have hmn : m < (nth f.fBlocks.xs n).fParams.xs.length := by omega
    cases pa with
    | true =>
      (repeat' (first | refine s_move ?_ | refine s_assign ?_ | refine s_nil ?_ | (refine k_C ?_; first | refine s_seq ?_ | refine s_region ?_ | refine s_skip ?_ | refine s_block ?_) | (refine k_E ?_; first | refine e_seq ?_ | refine e_bk ?_) | (refine k_load ?_; refine s_ldS rfl rfl om rfl ?_) | (refine k_bin ?_; refine s_add1 rfl rfl om ?_) | (refine k_idx ?_; refine s_idxS rfl rfl om ?_) | (refine k_guard ?_; refine s_off rfl rfl rfl rfl ?_) | refine s_pick rfl ?_))
      exact e_lp (m + 1, true) (by repeat (first | exact trivial | refine ⟨rfl, ?_⟩)) ⟨by show m + 1 ≤ _; omega, mem_take hmn hpa (by simp)⟩ (by show _ - _ < _ - _; omega) PSub.refl
    | false =>
      (repeat' (first | refine s_move ?_ | refine s_assign ?_ | refine s_nil ?_ | (refine k_C ?_; first | refine s_seq ?_ | refine s_region ?_ | refine s_skip ?_ | refine s_block ?_) | (refine k_E ?_; first | refine e_seq ?_ | refine e_bk ?_) | (refine k_load ?_; refine s_ldS rfl rfl om rfl ?_) | (refine k_bin ?_; first | refine s_add1 rfl rfl om ?_ | refine s_eql rfl rfl ?_) | (refine k_idx ?_; refine s_idxS rfl rfl om ?_) | (refine k_guard ?_; refine s_on rfl rfl ?_) | refine s_pick rfl ?_))
      exact e_lp (m + 1, decide (nth (nth f.fBlocks.xs n).fParams.xs m = vv)) (by repeat (first | exact trivial | refine ⟨rfl, ?_⟩)) ⟨by show m + 1 ≤ _; omega, mem_take hmn hpa (by simp)⟩ (by show _ - _ < _ - _; omega) PSub.refl
  have hmE : m = (nth f.fBlocks.xs n).fParams.xs.length := by omega
  subst hmE
  rw [List.take_length] at hpa
  cases pa with
  | true =>
    have hin := hpa.1 rfl
    (repeat' (first | refine s_move ?_ | refine s_nil ?_ | (refine k_C ?_; first | refine s_seq ?_ | refine s_region ?_ | refine s_skip ?_ | refine s_exit ?_ | refine s_iff rfl ?_) | (refine k_E ?_; first | refine e_seq ?_ | refine e_seq_exit ?_ | refine e_bk_exit ?_ | refine e_bk ?_ | refine e_lp_exit ?_) | (refine k_bin ?_; refine s_add1 rfl rfl om ?_) | (refine k_guard ?_; refine s_off rfl rfl rfl rfl ?_) | refine s_not rfl ?_ | refine s_pick rfl ?_))
    exact e_lp (z + 1, A7, l7, c7, xs7) (by repeat (first | exact trivial | refine ⟨rfl, ?_⟩)) ⟨by show z + 1 ≤ _; omega, hl7, by show l7 ≤ 60 + (z + 1); omega, by show xs7 = _ ++ ((madeAll f.fBlocks.xs).take (z + 1)).filter _; rw [hft, hx7]; simp [hin]⟩ (by show _ - _ < _ - _; omega) PSub.refl
  | false =>
    have hin : vv ∉ (nth f.fBlocks.xs n).fParams.xs := fun h => by have := hpa.2 h; cases this
    (repeat' (first | refine s_move ?_ | (refine k_C ?_; first | refine s_seq ?_ | refine s_region ?_ | refine s_exit ?_) | (refine k_E ?_; first | refine e_seq ?_ | refine e_seq_exit ?_ | refine e_bk_exit ?_ | refine e_lp_exit ?_) | (refine k_load ?_; refine s_ldBW rfl rfl ?_) | (refine k_guard ?_; refine s_on rfl rfl ?_) | refine s_not rfl ?_))
    have hsp := later15_spec f hf hfw (fun b hb => hG.way hb) I O hQ n 0 hnn (Nat.zero_le _) vv (by omega)
    rw [← hI] at hsp
    refine s_call0 hsp rfl (fun w1 H => H.rdD (by infer_instance)) ?_
    rintro r L' ⟨rfl, rfl⟩
    (repeat' (first | refine s_move ?_ | refine s_assign ?_ | refine s_nil ?_ | (refine k_C ?_; first | refine s_region ?_ | refine s_skip ?_ | (refine s_if rfl ?_ ?_ <;> intro hc)) | (refine k_E ?_; first | refine e_seq ?_ | refine e_bk ?_) | (refine k_bin ?_; refine s_add1 rfl rfl om ?_) | refine s_pick rfl ?_ | (refine s_app1 _ (fun _ => rfl) rfl om ?_; intro v A c)))
    · exact e_lp (z + 1, A, l7 + 1, c, xs7 ++ [vv]) (by repeat (first | exact trivial | refine ⟨rfl, ?_⟩)) ⟨by show z + 1 ≤ _; omega, by show l7 + 1 = (xs7 ++ [vv]).length; rw [List.length_append, hl7]; rfl, by show l7 + 1 ≤ 60 + (z + 1); omega, by show xs7 ++ [vv] = _ ++ ((madeAll f.fBlocks.xs).take (z + 1)).filter _; rw [hft, hx7, if_pos (by simpa [hin] using ‹I n vv = true›)]; simp⟩ (by show _ - _ < _ - _; omega) PSub.refl
    · exact e_lp (z + 1, A7, l7, c7, xs7) (by repeat (first | exact trivial | refine ⟨rfl, ?_⟩)) ⟨by show z + 1 ≤ _; omega, hl7, by show l7 ≤ 60 + (z + 1); omega, by show xs7 = _ ++ ((madeAll f.fBlocks.xs).take (z + 1)).filter _; rw [hft, hx7, if_neg (by simpa [hin] using ‹I n vv = false›)]; simp⟩ (by show _ - _ < _ - _; omega) PSub.refl
end Go.Proofs.Ytfplmdjlgjgbgaa
