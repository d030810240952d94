/- Layer 15: LiveSets, walked. -/
import Derived.Test.YtfplmdjlgjgbgaaV21
namespace Go.Proofs.Ytfplmdjlgjgbgaa
set_option linter.unusedVariables false
set_option linter.unusedSimpArgs false
open Go Go.RowKit

theorem PSub.bagMback {w0 : World} {f0 : FP} {L : List HP} {U k b : Nat} {mi : Nat → Nat} {I : Nat → Int → Bool} (hb : b < k) : PSub w0 f0 (mp EB 3 (mi b) U (setP (I b)) :: bagX U k mi I b :: L) (bagM U k mi I :: L) := by
  have h := PSub.bagMin (w0 := w0) (f0 := f0) (L := L) (U := U) (mi := mi) (I := I) (x := mi b) (p := I b) hb
  rw [updB_self, updB_self] at h
  exact h
theorem madeB_few {b : SsaBlock} (h : FewBk b) : (madeB b).length ≤ 60 := by
  have h1 := h.p
  have h2 := h.i
  have h3 := dstsB7_len b.fIns.xs
  unfold madeB
  rw [List.length_append]
  omega
theorem madeAll_few {f : SsaFunc} (h : FewFn f) : (madeAll f.fBlocks.xs).length ≤ 1800 := by
  have h1 : (madeAll f.fBlocks.xs).length ≤ f.fBlocks.xs.length * 60 := len_flatMap fun x hx => by
    obtain ⟨m, hm, rfl⟩ := List.getElem_of_mem hx
    rw [← nth_get hm]; exact madeB_few (h.k m hm)
  have h2 := h.b
  omega
theorem madeAll_wf {ok : FP} {w : World} {f : SsaFunc} (h : RdD ok w f) {x : Int} (hx : x ∈ madeAll f.fBlocks.xs) : wfi x := by
  obtain ⟨b, hb, hx⟩ := List.mem_flatMap.1 hx
  obtain ⟨m, hm, rfl⟩ := List.getElem_of_mem hb
  rw [← nth_get hm] at hx
  exact (madeB_wf (ok := ok) (w := w) (by infer_instance) hx).int
theorem filter_takeN {us : List Int} {p : Int → Bool} {z : Nat} (h : z < us.length) : ((us.take (z + 1)).filter p).length = ((us.take z).filter p).length + if p (nth us z) = true then 1 else 0 := by
  rw [← takeN h, List.filter_append, List.length_append]
  cases e : p (nth us z) <;> simp [e]
theorem ex_take {ws : List SsaEdge} {P : SsaEdge → Prop} {j : Nat} {ou x : Bool} (hj : j < ws.length) (h : ou = true ↔ ∃ w ∈ ws.take j, P w) (hx : x = true ↔ ou = true ∨ P (nth ws j)) : x = true ↔ ∃ w ∈ ws.take (j + 1), P w := by
  rw [hx, h, ← takeN hj]
  constructor
  · rintro (⟨w, h1, h2⟩ | h)
    · exact ⟨w, List.mem_append_left _ h1, h2⟩
    · exact ⟨_, List.mem_append_right _ (by simp), h⟩
  · rintro ⟨w, h1, h2⟩
    rcases List.mem_append.1 h1 with h1 | h1
    · exact .inl ⟨w, h1, h2⟩
    · rw [List.mem_singleton] at h1
      rw [h1] at h2
      exact .inr h2
theorem mem_take {us : List Int} {v : Int} {m : Nat} {b x : Bool} (hm : m < us.length) (h : b = true ↔ v ∈ us.take m) (hx : x = true ↔ b = true ∨ nth us m = v) : x = true ↔ v ∈ us.take (m + 1) := by
  rw [hx, h, ← takeN hm, List.mem_append, List.mem_singleton]
  constructor <;> rintro (h | h) <;> first | exact .inl h | exact .inr h.symm
set_option maxHeartbeats 8000000 in
theorem liveSets_spec (p : SsaProg) : Spec Try.prog 4 [.agg (Enc.enc p).toArray] [] (fun ok w => RdD ok w p) fun r L' => r = .bool true ∧ L' = [] := by
  refine spec_of Try.func4 rfl rfl fun w0 f0 hR => ?_
  (repeat' (first | refine s_assign ?_ | refine s_nil ?_ | (refine k_C ?_; first | refine s_seq ?_ | refine s_region ?_) | (refine k_E ?_; refine e_seq ?_) | (refine s_box _ rfl ?_; intro b)))
  obtain ⟨b1, rfl⟩ : ∃ q, q = b := ⟨_, rfl⟩
  refine s_call0 head15_spec rfl (fun _ _ => trivial) ?_
  rintro r L' ⟨rfl, rfl⟩
  (repeat' (first | refine s_nil ?_ | (refine k_C ?_; first | refine s_seq ?_ | refine s_region ?_ | refine s_skip ?_ | refine s_iff rfl ?_) | (refine k_E ?_; refine e_seq ?_) | (refine k_load ?_; refine s_ldBW rfl rfl ?_) | refine s_not rfl ?_))
  refine s_call0 (good15_spec p) rfl (fun w1 H => H.rdD (by infer_instance)) ?_
  rintro r L' ⟨gd, rfl, rfl, hgd⟩
  (repeat' (first | refine s_move ?_ | refine s_assign ?_ | refine s_nil ?_ | (refine k_C ?_; first | refine s_seq ?_ | refine s_region ?_ | refine s_skip ?_ | refine s_block ?_ | refine s_ret ?_ | (refine s_if rfl ?_ ?_ <;> intro hc)) | (refine k_E ?_; first | refine e_seq ?_ | refine e_seq_ret ?_) | (refine k_load ?_; refine s_ldB rfl rfl ?_) | (refine k_fld ?_; refine s_fldB rfl ?_) | (refine k_call ?_; refine s_len rfl ?_) | refine s_not rfl ?_))
  · exact e_done rfl rfl [] (PSub.take [] rfl) ⟨rfl, rfl⟩
  obtain ⟨hp, hck⟩ := hgd (by simpa using hc)
  have hpf := hp.f
  skip
  refine s_loop (σ := Nat) (fun i => [(1, .pointer (some ⟨b1, 0, none⟩)), (25, .slice p.fFuncs.A p.fFuncs.xs.length p.fFuncs.c), (26, .int .i64 p.fFuncs.xs.length), (27, .int .i64 (i : Nat))])
    (fun _ => [var 48 b1 p]) (fun i => i ≤ p.fFuncs.xs.length) (fun i => p.fFuncs.xs.length - i) 0 (by repeat (first | exact trivial | refine ⟨rfl, ?_⟩)) (Nat.zero_le _) PSub.refl ?_
  rintro g i hi
  (repeat' (first | refine s_nil ?_ | (refine k_C ?_; first | refine s_seq ?_ | refine s_region ?_) | (refine k_E ?_; refine e_seq ?_) | (refine k_bin ?_; refine s_lss rfl rfl ?_)))
  (first | (refine k_C ?_; (refine s_ifd rfl ?_ ?_ <;> intro hc <;> try (exfalso; omega))))
  rotate_left
  · (repeat' (first | refine s_assign ?_ | refine s_nil ?_ | (refine k_C ?_; first | refine s_seq ?_ | refine s_region ?_ | refine s_exit ?_ | refine s_ret ?_) | (refine k_E ?_; first | refine e_seq ?_ | refine e_seq_exit ?_ | refine e_bk_exit ?_ | refine e_lp_exit ?_)))
    exact e_done rfl rfl [] (PSub.take [] rfl) ⟨rfl, rfl⟩
  have hin : i < p.fFuncs.xs.length := by omega
  have hFw := hp.k i hin
  have hFo := few_okF hFw
  have hFP := (fewP_pr hp).f i
  have hG := good_of hck hin
  have hnb := hFw.b
  have hml := madeAll_few hFw
  (repeat' (first | refine s_nil ?_ | (refine k_C ?_; first | refine s_seq ?_ | refine s_region ?_ | refine s_skip ?_ | refine s_block ?_) | (refine k_E ?_; refine e_seq ?_) | (refine k_load ?_; first | refine s_ldBW rfl rfl ?_ | refine s_ldSA rfl rfl om rfl ?_) | (refine k_idx ?_; refine s_idxS rfl rfl om ?_) | (refine k_store ?_; refine s_stW _ rfl rfl ?_) | (refine s_alloc ?_; intro b)))
  obtain ⟨b4, rfl⟩ : ∃ q, q = b := ⟨_, rfl⟩
  refine s_call0 (of15_spec (nth p.fFuncs.xs i) hFo.1) rfl (fun w1 H => H.rdD (by infer_instance)) ?_
  rintro r L' ⟨Si, So, mi, mo, I, O, rfl, hQ, hri, hro, rfl⟩
  have hri1 : ((⟨Si, So⟩ : LiveSets).fIn.xs.length : Int) = ((nth p.fFuncs.xs i).fBlocks.xs.length : Nat) := congrArg Nat.cast hri.1
  have hro1 : ((⟨Si, So⟩ : LiveSets).fOut.xs.length : Int) = ((nth p.fFuncs.xs i).fBlocks.xs.length : Nat) := congrArg Nat.cast hro.1
  (repeat' (first | refine s_move ?_ | refine s_nil ?_ | (refine k_C ?_; first | refine s_seq ?_ | refine s_region ?_ | refine s_skip ?_ | refine s_block ?_ | (refine s_ifn rfl ?_ ?_ <;> intro hc <;> try (exfalso; omega))) | (refine k_E ?_; refine e_seq ?_) | (refine k_load ?_; refine s_ldB rfl rfl ?_) | (refine k_bin ?_; refine s_neq rfl rfl ?_) | (refine k_fld ?_; refine s_fldB rfl ?_) | (refine k_store ?_; refine s_stW _ rfl rfl ?_) | (refine k_call ?_; refine s_len rfl ?_) | (refine k_guard ?_; first | refine s_on rfl rfl ?_ | (refine s_casesn rfl rfl ?_ ?_ <;> intro hc <;> try (exfalso; omega))) | (refine s_alloc ?_; intro b) | refine s_pick rfl ?_))
  obtain ⟨b5, rfl⟩ : ∃ q, q = b := ⟨_, rfl⟩
  refine s_loop (σ := Nat) (fun n => [(1, .pointer (some ⟨b1, 0, none⟩)), (25, .slice p.fFuncs.A p.fFuncs.xs.length p.fFuncs.c), (26, .int .i64 p.fFuncs.xs.length), (27, .int .i64 (i : Nat)), (4, .pointer (some ⟨b4, 0, none⟩)), (5, .pointer (some ⟨b5, 0, none⟩)), (50, .slice (nth p.fFuncs.xs i).fBlocks.A (nth p.fFuncs.xs i).fBlocks.xs.length (nth p.fFuncs.xs i).fBlocks.c), (51, .int .i64 (nth p.fFuncs.xs i).fBlocks.xs.length), (52, .int .i64 (n : Nat))]) (fun _ => [own 58 Si.A Si.xs.length Si.c Si.xs, own 58 So.A So.xs.length So.c So.xs, bagM (usU (nth p.fFuncs.xs i)).length (nth p.fFuncs.xs i).fBlocks.xs.length mi I, bagM (usU (nth p.fFuncs.xs i)).length (nth p.fFuncs.xs i).fBlocks.xs.length mo O, var 52 b5 (⟨Si, So⟩ : LiveSets), var 38 b4 (nth p.fFuncs.xs i), var 48 b1 p]) (fun n => n ≤ (nth p.fFuncs.xs i).fBlocks.xs.length) (fun n => (nth p.fFuncs.xs i).fBlocks.xs.length - n) 0 (by repeat (first | exact trivial | refine ⟨rfl, ?_⟩)) (Nat.zero_le _) (PSub.take [1, 1, 1, 1, 0, 0, 0] rfl) ?_
  rintro g2 n hn
  (repeat' (first | refine s_nil ?_ | (refine k_C ?_; first | refine s_seq ?_ | refine s_region ?_) | (refine k_E ?_; refine e_seq ?_) | (refine k_bin ?_; refine s_lss rfl rfl ?_)))
  (first | (refine k_C ?_; (refine s_ifd rfl ?_ ?_ <;> intro hc <;> try (exfalso; omega))))
  rotate_left
  · (repeat' (first | refine s_move ?_ | refine s_nil ?_ | (refine k_C ?_; first | refine s_region ?_ | refine s_exit ?_) | (refine k_E ?_; first | refine e_seq ?_ | refine e_seq_exit ?_ | refine e_bk_exit ?_ | refine e_bk ?_ | refine e_lp_exit ?_) | (refine k_bin ?_; refine s_add1 rfl rfl om ?_)))
    exact e_lp (i + 1) (by repeat (first | exact trivial | refine ⟨rfl, ?_⟩)) (by omega) (by show _ - _ < _ - _; omega) (PSub.take [6] rfl)
  have hnn : n < (nth p.fFuncs.xs i).fBlocks.xs.length := by omega
  have hbk := hFo.1.k n hnn
  (repeat' (first | refine s_move ?_ | refine s_assign ?_ | refine s_nil ?_ | (refine k_C ?_; first | refine s_seq ?_ | refine s_region ?_ | refine s_skip ?_ | refine s_block ?_) | (refine k_E ?_; refine e_seq ?_) | (refine k_load ?_; first | refine s_ldBW rfl rfl ?_ | refine s_ldSA rfl rfl om rfl ?_) | (refine k_idx ?_; refine s_idxS rfl rfl om ?_) | (refine k_store ?_; refine s_stW _ rfl rfl ?_) | (refine s_alloc ?_; intro b)))
  obtain ⟨b7, rfl⟩ : ∃ q, q = b := ⟨_, rfl⟩
  refine s_call0 (all15_spec (nth p.fFuncs.xs i) hFo.1) rfl (fun w1 H => H.rdD (by infer_instance)) ?_
  rintro r L' ⟨A, c, rfl, rfl⟩
  refine so_sub (L' := [mp EB 3 (mi n) (usU (nth p.fFuncs.xs i)).length (setP (I n)), mp EB 3 (mo n) (usU (nth p.fFuncs.xs i)).length (setP (O n)), own 3 A (madeAll (nth p.fFuncs.xs i).fBlocks.xs).length c (madeAll (nth p.fFuncs.xs i).fBlocks.xs), own 58 Si.A Si.xs.length Si.c Si.xs, own 58 So.A So.xs.length So.c So.xs, var 31 b7 (nth (nth p.fFuncs.xs i).fBlocks.xs n), var 52 b5 (⟨Si, So⟩ : LiveSets), var 38 b4 (nth p.fFuncs.xs i), var 48 b1 p, bagX (usU (nth p.fFuncs.xs i)).length (nth p.fFuncs.xs i).fBlocks.xs.length mi I n, bagX (usU (nth p.fFuncs.xs i)).length (nth p.fFuncs.xs i).fBlocks.xs.length mo O n]) ((PSub.take [4, 4, 0, 0, 0, 0, 0, 0, 0] rfl).trans ((PSub.bagMout hnn).trans ((PSub.take [2, 0, 0, 0, 0, 0, 0, 0, 0, 0] rfl).trans ((PSub.bagMout hnn).trans (PSub.take [2, 0, 2, 3, 3, 2, 2, 2, 2, 1, 0] rfl))))) ?_
  (repeat' (first | refine s_move ?_ | refine s_nil ?_ | (refine k_C ?_; refine s_block ?_) | (refine k_E ?_; refine e_seq ?_) | (refine k_call ?_; refine s_len rfl ?_)))
  refine s_loop (σ := Nat × Nat × Nat) (fun q => [(1, .pointer (some ⟨b1, 0, none⟩)), (25, .slice p.fFuncs.A p.fFuncs.xs.length p.fFuncs.c), (26, .int .i64 p.fFuncs.xs.length), (27, .int .i64 (i : Nat)), (4, .pointer (some ⟨b4, 0, none⟩)), (5, .pointer (some ⟨b5, 0, none⟩)), (50, .slice (nth p.fFuncs.xs i).fBlocks.A (nth p.fFuncs.xs i).fBlocks.xs.length (nth p.fFuncs.xs i).fBlocks.c), (51, .int .i64 (nth p.fFuncs.xs i).fBlocks.xs.length), (52, .int .i64 (n : Nat)), (6, .int .i64 (n : Nat)), (7, .pointer (some ⟨b7, 0, none⟩)), (58, .slice A (madeAll (nth p.fFuncs.xs i).fBlocks.xs).length c), (59, .int .i64 (madeAll (nth p.fFuncs.xs i).fBlocks.xs).length), (60, .int .i64 (q.1 : Nat)), (8, .int .i64 (q.2.1 : Nat)), (9, .int .i64 (q.2.2 : Nat))]) (fun _ => [mp EB 3 (mi n) (usU (nth p.fFuncs.xs i)).length (setP (I n)), mp EB 3 (mo n) (usU (nth p.fFuncs.xs i)).length (setP (O n)), own 3 A (madeAll (nth p.fFuncs.xs i).fBlocks.xs).length c (madeAll (nth p.fFuncs.xs i).fBlocks.xs), own 58 Si.A Si.xs.length Si.c Si.xs, own 58 So.A So.xs.length So.c So.xs, var 31 b7 (nth (nth p.fFuncs.xs i).fBlocks.xs n), var 52 b5 (⟨Si, So⟩ : LiveSets), var 38 b4 (nth p.fFuncs.xs i), var 48 b1 p, bagX (usU (nth p.fFuncs.xs i)).length (nth p.fFuncs.xs i).fBlocks.xs.length mi I n, bagX (usU (nth p.fFuncs.xs i)).length (nth p.fFuncs.xs i).fBlocks.xs.length mo O n])
    (fun q => q.1 ≤ (madeAll (nth p.fFuncs.xs i).fBlocks.xs).length ∧ q.2.1 ≤ q.1 ∧ q.2.2 ≤ q.1 ∧ q.2.1 = (((madeAll (nth p.fFuncs.xs i).fBlocks.xs).take q.1).filter (I n)).length ∧ q.2.2 = (((madeAll (nth p.fFuncs.xs i).fBlocks.xs).take q.1).filter (O n)).length) (fun q => (madeAll (nth p.fFuncs.xs i).fBlocks.xs).length - q.1) (0, 0, 0) (by repeat (first | exact trivial | refine ⟨rfl, ?_⟩)) ⟨Nat.zero_le _, Nat.le_refl _, Nat.le_refl _, rfl, rfl⟩ PSub.refl ?_
  rintro g3 ⟨z, c1, c2⟩ ⟨hz, hc1, hc2, he1, he2⟩
  dsimp only at hz hc1 hc2 he1 he2 ⊢
  have hin0 : (nth Si.xs n).b = some (mi n) := congrArg Mr.b (hri.2 n hnn)
  have hon0 : (nth So.xs n).b = some (mo n) := congrArg Mr.b (hro.2 n hnn)
  (repeat' (first | refine s_nil ?_ | (refine k_C ?_; first | refine s_seq ?_ | refine s_region ?_) | (refine k_E ?_; refine e_seq ?_) | (refine k_bin ?_; refine s_lss rfl rfl ?_)))
  (first | (refine k_C ?_; (refine s_ifd rfl ?_ ?_ <;> intro hc <;> try (exfalso; omega))))
  rotate_left
  · have hzE : z = (madeAll (nth p.fFuncs.xs i).fBlocks.xs).length := by omega
    subst hzE
    rw [List.take_length] at he1 he2
    (repeat' (first | (refine k_C ?_; first | refine s_seq ?_ | refine s_region ?_ | refine s_exit ?_) | (refine k_E ?_; first | refine e_seq ?_ | refine e_seq_exit ?_ | refine e_bk_exit ?_ | refine e_lp_exit ?_) | (refine k_load ?_; refine s_ldBW rfl rfl ?_)))
    refine s_call0 (reach7_spec (nth p.fFuncs.xs i) hFP) rfl (fun w1 H => H.rdD (by infer_instance)) ?_
    rintro r L' ⟨A3, c3, rfl, rfl⟩
    have hri2 := hri.1
    have hro2 := hro.1
    have hks : ∀ (ks : List Int), ks.Nodup → (∀ k, k ∈ ks ↔ setP (I n) k ≠ none) → nth (reachB7 (nth p.fFuncs.xs i)) n = true → ks.length = c1 := fun ks k1 k2 hr => (card_of k1 k2 hG.nodup (hG.made hQ hnn hr).1).trans he1.symm
    have hks2 : ∀ (ks : List Int), ks.Nodup → (∀ k, k ∈ ks ↔ setP (O n) k ≠ none) → nth (reachB7 (nth p.fFuncs.xs i)) n = true → ks.length = c2 := fun ks k1 k2 hr => (card_of k1 k2 hG.nodup (hG.made hQ hnn hr).2).trans he2.symm
    (repeat' (first | refine s_move ?_ | refine s_nil ?_ | (refine k_C ?_; first | refine s_region ?_ | refine s_skip ?_ | refine s_iff rfl ?_) | (refine k_E ?_; first | refine e_seq ?_ | refine e_bk ?_) | (refine k_load ?_; first | refine s_ldB rfl rfl ?_ | refine s_ld rfl om rfl ?_) | (refine k_bin ?_; refine s_add1 rfl rfl om ?_) | (refine k_fld ?_; refine s_fldB rfl ?_) | (refine k_idx ?_; refine s_idx rfl rfl om ?_) | (refine k_guard ?_; first | refine s_on rfl rfl ?_ | refine s_off rfl rfl rfl rfl ?_ | refine s_offU rfl rfl rfl rfl ?_ | (refine s_cases rfl rfl ?_ ?_ <;> intro hc)) | refine s_pick rfl ?_))
    · have hrn : nth (reachB7 (nth p.fFuncs.xs i)) n = true := by assumption
      rw [hin0]
      refine s_lenC rfl ?_
      intro ks hk1 hk2
      have hkl := hks ks hk1 hk2 hrn
      (repeat' (first | refine s_move ?_ | (refine k_load ?_; first | refine s_ldB rfl rfl ?_ | refine s_ld rfl om rfl ?_) | (refine k_bin ?_; refine s_neq rfl rfl ?_) | (refine k_fld ?_; refine s_fldB rfl ?_) | (refine k_idx ?_; refine s_idx rfl rfl om ?_) | (refine k_guard ?_; first | refine s_on rfl rfl ?_ | (refine s_casesn rfl rfl ?_ ?_ <;> intro hc <;> try (exfalso; omega)))))
      rw [hon0]
      refine s_lenC rfl ?_
      intro ks2 hk3 hk4
      have hkl2 := hks2 ks2 hk3 hk4 hrn
      (repeat' (first | refine s_move ?_ | refine s_nil ?_ | (refine k_C ?_; first | refine s_region ?_ | refine s_skip ?_ | (refine s_ifn rfl ?_ ?_ <;> intro hc <;> try (exfalso; omega))) | (refine k_E ?_; first | refine e_seq ?_ | refine e_bk ?_) | (refine k_bin ?_; first | refine s_add1 rfl rfl om ?_ | refine s_neq rfl rfl ?_) | (refine k_guard ?_; refine s_on rfl rfl ?_) | refine s_pick rfl ?_))
      exact e_lp (n + 1) (by repeat (first | exact trivial | refine ⟨rfl, ?_⟩)) (by show n + 1 ≤ _; omega) (by show _ - _ < _ - _; omega) ((PSub.take [1, 9, 1, 8, 2, 2, 3, 3, 3] rfl).trans ((PSub.bagMback hnn).trans ((PSub.take [1, 1, 0, 0, 0, 0, 0, 0] rfl).trans ((PSub.bagMback hnn).trans (PSub.take [2, 2, 1, 0, 0, 0, 0] rfl)))))
    exact e_lp (n + 1) (by repeat (first | exact trivial | refine ⟨rfl, ?_⟩)) (by show n + 1 ≤ _; omega) (by show _ - _ < _ - _; omega) ((PSub.take [1, 9, 1, 8, 2, 2, 3, 3, 3] rfl).trans ((PSub.bagMback hnn).trans ((PSub.take [1, 1, 0, 0, 0, 0, 0, 0] rfl).trans ((PSub.bagMback hnn).trans (PSub.take [2, 2, 1, 0, 0, 0, 0] rfl)))))
  have hzl : z < (madeAll (nth p.fFuncs.xs i).fBlocks.xs).length := by omega
  have hvm : nth (madeAll (nth p.fFuncs.xs i).fBlocks.xs) z ∈ (madeAll (nth p.fFuncs.xs i).fBlocks.xs) := nth_mem hzl
  generalize hvv : nth (madeAll (nth p.fFuncs.xs i).fBlocks.xs) z = vv at hvm
  have hv0 := hG.pos vv hvm
  have hvw : wfi vv := madeAll_wf (ok := okOf w0 f0) (w := w0) (f := (nth p.fFuncs.xs i)) (by infer_instance) hvm
  (repeat' (first | refine s_move ?_ | refine s_assign ?_ | refine s_nil ?_ | (refine k_C ?_; first | refine s_seq ?_ | refine s_region ?_ | refine s_skip ?_ | refine s_block ?_) | (refine k_E ?_; refine e_seq ?_) | (refine k_load ?_; first | refine s_ldBW rfl rfl ?_ | refine s_ld rfl om rfl ?_) | (refine k_idx ?_; refine s_idx rfl rfl om ?_)))
  rw [hvv]
  refine s_call0 (later15_spec (nth p.fFuncs.xs i) hFo.1 hFw (fun b hb => hG.way hb) I O hQ n 0 hnn (Nat.zero_le _) vv (by omega)) rfl (fun w1 H => H.rdD (by infer_instance)) ?_
  rintro r L' ⟨rfl, rfl⟩
  rw [show liveB (nth (nth p.fFuncs.xs i).fBlocks.xs n) (O n) 0 = I n from (hQ.at_ n hnn).1.symm]
  (repeat' (first | refine s_move ?_ | refine s_assign ?_ | refine s_nil ?_ | (refine k_C ?_; first | refine s_seq ?_ | refine s_region ?_ | refine s_block ?_) | (refine k_E ?_; refine e_seq ?_) | (refine k_load ?_; refine s_ldB rfl rfl ?_) | (refine k_fld ?_; refine s_fldB rfl ?_) | (refine k_call ?_; refine s_len rfl ?_)))
  have hwl := hbk.w
  refine s_loop (σ := Nat × Bool) (fun q => [(1, .pointer (some ⟨b1, 0, none⟩)), (25, .slice p.fFuncs.A p.fFuncs.xs.length p.fFuncs.c), (26, .int .i64 p.fFuncs.xs.length), (27, .int .i64 (i : Nat)), (4, .pointer (some ⟨b4, 0, none⟩)), (5, .pointer (some ⟨b5, 0, none⟩)), (50, .slice (nth p.fFuncs.xs i).fBlocks.A (nth p.fFuncs.xs i).fBlocks.xs.length (nth p.fFuncs.xs i).fBlocks.c), (51, .int .i64 (nth p.fFuncs.xs i).fBlocks.xs.length), (52, .int .i64 (n : Nat)), (6, .int .i64 (n : Nat)), (7, .pointer (some ⟨b7, 0, none⟩)), (58, .slice A (madeAll (nth p.fFuncs.xs i).fBlocks.xs).length c), (59, .int .i64 (madeAll (nth p.fFuncs.xs i).fBlocks.xs).length), (60, .int .i64 (z : Nat)), (8, .int .i64 (c1 : Nat)), (9, .int .i64 (c2 : Nat)), (11, .int .i64 vv), (12, .bool (I n vv)), (70, .slice (nth (nth p.fFuncs.xs i).fBlocks.xs n).fEnd.fWays.A (nth (nth p.fFuncs.xs i).fBlocks.xs n).fEnd.fWays.xs.length (nth (nth p.fFuncs.xs i).fBlocks.xs n).fEnd.fWays.c), (71, .int .i64 (nth (nth p.fFuncs.xs i).fBlocks.xs n).fEnd.fWays.xs.length), (72, .int .i64 (q.1 : Nat)), (13, .bool q.2)]) (fun _ => [mp EB 3 (mi n) (usU (nth p.fFuncs.xs i)).length (setP (I n)), mp EB 3 (mo n) (usU (nth p.fFuncs.xs i)).length (setP (O n)), own 3 A (madeAll (nth p.fFuncs.xs i).fBlocks.xs).length c (madeAll (nth p.fFuncs.xs i).fBlocks.xs), own 58 Si.A Si.xs.length Si.c Si.xs, own 58 So.A So.xs.length So.c So.xs, var 31 b7 (nth (nth p.fFuncs.xs i).fBlocks.xs n), var 52 b5 (⟨Si, So⟩ : LiveSets), var 38 b4 (nth p.fFuncs.xs i), var 48 b1 p, bagX (usU (nth p.fFuncs.xs i)).length (nth p.fFuncs.xs i).fBlocks.xs.length mi I n, bagX (usU (nth p.fFuncs.xs i)).length (nth p.fFuncs.xs i).fBlocks.xs.length mo O n])
    (fun q => q.1 ≤ (nth (nth p.fFuncs.xs i).fBlocks.xs n).fEnd.fWays.xs.length ∧ (q.2 = true ↔ ∃ w ∈ (nth (nth p.fFuncs.xs i).fBlocks.xs n).fEnd.fWays.xs.take q.1, I w.fTo.toNat vv = true ∧ vv ∉ (nth (nth p.fFuncs.xs i).fBlocks.xs w.fTo.toNat).fParams.xs)) (fun q => (nth (nth p.fFuncs.xs i).fBlocks.xs n).fEnd.fWays.xs.length - q.1) (0, false) (by repeat (first | exact trivial | refine ⟨rfl, ?_⟩)) ⟨Nat.zero_le _, by simp⟩ (PSub.take [0, 0, 0, 0, 0, 0, 0, 0, 0, 0, 0] rfl) ?_
  rintro g4 ⟨j, ou⟩ ⟨hj, hou⟩
  dsimp only at hj hou ⊢
  (repeat' (first | refine s_nil ?_ | (refine k_C ?_; first | refine s_seq ?_ | refine s_region ?_) | (refine k_E ?_; refine e_seq ?_) | (refine k_bin ?_; refine s_lss rfl rfl ?_)))
  (first | (refine k_C ?_; (refine s_ifd rfl ?_ ?_ <;> intro hc <;> try (exfalso; omega))))
  rotate_left
  · have hjE : j = (nth (nth p.fFuncs.xs i).fBlocks.xs n).fEnd.fWays.xs.length := by omega
    subst hjE
    rw [List.take_length] at hou
    have hov : ou = O n vv := by
      rw [Bool.eq_iff_iff, hou, hQ.ctr hnn]
      constructor
      · rintro ⟨w, h1, h2, h3⟩
        obtain ⟨h4, h5⟩ := hG.way hnn w h1
        exact ⟨w, h1, h4, h5, h2, h3⟩
      · rintro ⟨w, h1, _, _, h2, h3⟩
        exact ⟨w, h1, h2, h3⟩
    subst hov
    have hri2 := hri.1
    have hro2 := hro.1
    have hf1 : (((madeAll (nth p.fFuncs.xs i).fBlocks.xs).take (z + 1)).filter (I n)).length = c1 + if I n vv = true then 1 else 0 := by rw [filter_takeN hzl, hvv, he1]
    have hf2 : (((madeAll (nth p.fFuncs.xs i).fBlocks.xs).take (z + 1)).filter (O n)).length = c2 + if O n vv = true then 1 else 0 := by rw [filter_takeN hzl, hvv, he2]
    (repeat' (first | refine s_move ?_ | (refine k_C ?_; first | refine s_seq ?_ | refine s_region ?_ | refine s_exit ?_) | (refine k_E ?_; first | refine e_seq ?_ | refine e_seq_exit ?_ | refine e_bk_exit ?_ | refine e_lp_exit ?_) | (refine k_load ?_; first | refine s_ldB rfl rfl ?_ | refine s_ld rfl om rfl ?_) | (refine k_fld ?_; refine s_fldB rfl ?_) | (refine k_idx ?_; refine s_idx rfl rfl om ?_)))
    rw [hin0]
    refine s_look rfl rfl hvw ?_
    rw [setP_z]
    (first | refine s_move ?_)
    refine k_bin ?_
    refine s_bne rfl rfl ?_
    rw [show (!(I n vv == I n vv)) = false by simp]
    (repeat' (first | refine s_move ?_ | (refine k_load ?_; first | refine s_ldB rfl rfl ?_ | refine s_ld rfl om rfl ?_) | (refine k_fld ?_; refine s_fldB rfl ?_) | (refine k_idx ?_; refine s_idx rfl rfl om ?_) | (refine k_guard ?_; refine s_on rfl rfl ?_)))
    rw [hon0]
    refine s_look rfl rfl hvw ?_
    rw [setP_z]
    (first | (refine k_guard ?_; refine s_on rfl rfl ?_))
    (first | refine s_move ?_)
    (first | (refine k_guard ?_; refine s_on rfl rfl ?_))
    refine k_bin ?_
    refine s_bne rfl rfl ?_
    rw [show (!(O n vv == O n vv)) = false by simp]
    (repeat' (first | refine s_move ?_ | refine s_assign ?_ | refine s_nil ?_ | (refine k_C ?_; first | refine s_seq ?_ | refine s_region ?_ | refine s_skip ?_ | refine s_iff rfl ?_ | (refine s_if rfl ?_ ?_ <;> intro hc)) | (refine k_E ?_; first | refine e_seq ?_ | refine e_bk ?_) | (refine k_bin ?_; refine s_add1 rfl rfl om ?_) | refine s_pick rfl ?_))
    · exact e_lp (z + 1, c1 + 1, c2 + 1) (by repeat (first | exact trivial | refine ⟨rfl, ?_⟩)) ⟨by show z + 1 ≤ _; omega, by show c1 + 1 ≤ z + 1; omega, by show c2 + 1 ≤ z + 1; omega, by show c1 + 1 = (((madeAll (nth p.fFuncs.xs i).fBlocks.xs).take (z + 1)).filter (I n)).length; rw [hf1, if_pos (by assumption)], by show c2 + 1 = (((madeAll (nth p.fFuncs.xs i).fBlocks.xs).take (z + 1)).filter (O n)).length; rw [hf2, if_pos (by assumption)]⟩ (by show _ - _ < _ - _; omega) PSub.refl
    · exact e_lp (z + 1, c1 + 1, c2) (by repeat (first | exact trivial | refine ⟨rfl, ?_⟩)) ⟨by show z + 1 ≤ _; omega, by show c1 + 1 ≤ z + 1; omega, by show c2 ≤ z + 1; omega, by show c1 + 1 = (((madeAll (nth p.fFuncs.xs i).fBlocks.xs).take (z + 1)).filter (I n)).length; rw [hf1, if_pos (by assumption)], by show c2 = (((madeAll (nth p.fFuncs.xs i).fBlocks.xs).take (z + 1)).filter (O n)).length; rw [hf2, if_neg (by rw [Bool.not_eq_true]; assumption)]; rfl⟩ (by show _ - _ < _ - _; omega) PSub.refl
    · exact e_lp (z + 1, c1, c2 + 1) (by repeat (first | exact trivial | refine ⟨rfl, ?_⟩)) ⟨by show z + 1 ≤ _; omega, by show c1 ≤ z + 1; omega, by show c2 + 1 ≤ z + 1; omega, by show c1 = (((madeAll (nth p.fFuncs.xs i).fBlocks.xs).take (z + 1)).filter (I n)).length; rw [hf1, if_neg (by rw [Bool.not_eq_true]; assumption)]; rfl, by show c2 + 1 = (((madeAll (nth p.fFuncs.xs i).fBlocks.xs).take (z + 1)).filter (O n)).length; rw [hf2, if_pos (by assumption)]⟩ (by show _ - _ < _ - _; omega) PSub.refl
    · exact e_lp (z + 1, c1, c2) (by repeat (first | exact trivial | refine ⟨rfl, ?_⟩)) ⟨by show z + 1 ≤ _; omega, by show c1 ≤ z + 1; omega, by show c2 ≤ z + 1; omega, by show c1 = (((madeAll (nth p.fFuncs.xs i).fBlocks.xs).take (z + 1)).filter (I n)).length; rw [hf1, if_neg (by rw [Bool.not_eq_true]; assumption)]; rfl, by show c2 = (((madeAll (nth p.fFuncs.xs i).fBlocks.xs).take (z + 1)).filter (O n)).length; rw [hf2, if_neg (by rw [Bool.not_eq_true]; assumption)]; rfl⟩ (by show _ - _ < _ - _; omega) PSub.refl
  have hjn : j < (nth (nth p.fFuncs.xs i).fBlocks.xs n).fEnd.fWays.xs.length := by omega
  have hwm : (nth (nth (nth p.fFuncs.xs i).fBlocks.xs n).fEnd.fWays.xs j) ∈ waysQ (nth p.fFuncs.xs i) n := nth_mem hjn
  obtain ⟨hw0, hw1⟩ := hG.way hnn _ hwm
  have htn : (nth (nth (nth p.fFuncs.xs i).fBlocks.xs n).fEnd.fWays.xs j).fTo.toNat < (nth p.fFuncs.xs i).fBlocks.xs.length := by omega
  have hto : (((nth (nth (nth p.fFuncs.xs i).fBlocks.xs n).fEnd.fWays.xs j).fTo.toNat : Nat) : Int) = (nth (nth (nth p.fFuncs.xs i).fBlocks.xs n).fEnd.fWays.xs j).fTo := by omega
  have hpl := (hFo.1.k _ htn).p
  (repeat' (first | refine s_move ?_ | refine s_assign ?_ | refine s_nil ?_ | (refine k_C ?_; first | refine s_seq ?_ | refine s_region ?_ | refine s_skip ?_ | refine s_block ?_) | (refine k_E ?_; refine e_seq ?_) | (refine k_load ?_; first | refine s_ldB rfl rfl ?_ | refine s_ldS rfl rfl om rfl ?_ | refine s_ldSA rfl rfl om rfl ?_) | (refine k_fld ?_; first | refine s_fld rfl ?_ | refine s_fldB rfl ?_) | (refine k_idx ?_; first | refine s_idxS rfl rfl om ?_ | refine s_idxSI rfl rfl om om ?_) | (refine k_store ?_; refine s_stW _ rfl rfl ?_) | (refine k_call ?_; refine s_len rfl ?_) | (refine s_alloc ?_; intro b)))
  obtain ⟨b15, rfl⟩ : ∃ q, q = b := ⟨_, rfl⟩
  refine s_loop (σ := Nat × Bool) (fun q => [(1, .pointer (some ⟨b1, 0, none⟩)), (25, .slice p.fFuncs.A p.fFuncs.xs.length p.fFuncs.c), (26, .int .i64 p.fFuncs.xs.length), (27, .int .i64 (i : Nat)), (4, .pointer (some ⟨b4, 0, none⟩)), (5, .pointer (some ⟨b5, 0, none⟩)), (50, .slice (nth p.fFuncs.xs i).fBlocks.A (nth p.fFuncs.xs i).fBlocks.xs.length (nth p.fFuncs.xs i).fBlocks.c), (51, .int .i64 (nth p.fFuncs.xs i).fBlocks.xs.length), (52, .int .i64 (n : Nat)), (6, .int .i64 (n : Nat)), (7, .pointer (some ⟨b7, 0, none⟩)), (58, .slice A (madeAll (nth p.fFuncs.xs i).fBlocks.xs).length c), (59, .int .i64 (madeAll (nth p.fFuncs.xs i).fBlocks.xs).length), (60, .int .i64 (z : Nat)), (8, .int .i64 (c1 : Nat)), (9, .int .i64 (c2 : Nat)), (11, .int .i64 vv), (12, .bool (I n vv)), (70, .slice (nth (nth p.fFuncs.xs i).fBlocks.xs n).fEnd.fWays.A (nth (nth p.fFuncs.xs i).fBlocks.xs n).fEnd.fWays.xs.length (nth (nth p.fFuncs.xs i).fBlocks.xs n).fEnd.fWays.c), (71, .int .i64 (nth (nth p.fFuncs.xs i).fBlocks.xs n).fEnd.fWays.xs.length), (72, .int .i64 (j : Nat)), (13, .bool ou), (15, .pointer (some ⟨b15, 0, none⟩)), (82, .slice (nth (nth p.fFuncs.xs i).fBlocks.xs (nth (nth (nth p.fFuncs.xs i).fBlocks.xs n).fEnd.fWays.xs j).fTo.toNat).fParams.A (nth (nth p.fFuncs.xs i).fBlocks.xs (nth (nth (nth p.fFuncs.xs i).fBlocks.xs n).fEnd.fWays.xs j).fTo.toNat).fParams.xs.length (nth (nth p.fFuncs.xs i).fBlocks.xs (nth (nth (nth p.fFuncs.xs i).fBlocks.xs n).fEnd.fWays.xs j).fTo.toNat).fParams.c), (83, .int .i64 (nth (nth p.fFuncs.xs i).fBlocks.xs (nth (nth (nth p.fFuncs.xs i).fBlocks.xs n).fEnd.fWays.xs j).fTo.toNat).fParams.xs.length), (84, .int .i64 (q.1 : Nat)), (16, .bool q.2)]) (fun _ => [var 57 b15 (nth (nth (nth p.fFuncs.xs i).fBlocks.xs n).fEnd.fWays.xs j), mp EB 3 (mi n) (usU (nth p.fFuncs.xs i)).length (setP (I n)), mp EB 3 (mo n) (usU (nth p.fFuncs.xs i)).length (setP (O n)), own 3 A (madeAll (nth p.fFuncs.xs i).fBlocks.xs).length c (madeAll (nth p.fFuncs.xs i).fBlocks.xs), own 58 Si.A Si.xs.length Si.c Si.xs, own 58 So.A So.xs.length So.c So.xs, var 31 b7 (nth (nth p.fFuncs.xs i).fBlocks.xs n), var 52 b5 (⟨Si, So⟩ : LiveSets), var 38 b4 (nth p.fFuncs.xs i), var 48 b1 p, bagX (usU (nth p.fFuncs.xs i)).length (nth p.fFuncs.xs i).fBlocks.xs.length mi I n, bagX (usU (nth p.fFuncs.xs i)).length (nth p.fFuncs.xs i).fBlocks.xs.length mo O n])
    (fun q => q.1 ≤ (nth (nth p.fFuncs.xs i).fBlocks.xs (nth (nth (nth p.fFuncs.xs i).fBlocks.xs n).fEnd.fWays.xs j).fTo.toNat).fParams.xs.length ∧ (q.2 = true ↔ vv ∈ (nth (nth p.fFuncs.xs i).fBlocks.xs (nth (nth (nth p.fFuncs.xs i).fBlocks.xs n).fEnd.fWays.xs j).fTo.toNat).fParams.xs.take q.1)) (fun q => (nth (nth p.fFuncs.xs i).fBlocks.xs (nth (nth (nth p.fFuncs.xs i).fBlocks.xs n).fEnd.fWays.xs j).fTo.toNat).fParams.xs.length - q.1) (0, false) (by repeat (first | exact trivial | refine ⟨rfl, ?_⟩)) ⟨Nat.zero_le _, by simp⟩ PSub.refl ?_
  rintro g5 ⟨m, pa⟩ ⟨hm, hpa⟩
  dsimp only at hm hpa ⊢
  (repeat' (first | refine s_nil ?_ | (refine k_C ?_; first | refine s_seq ?_ | refine s_region ?_) | (refine k_E ?_; refine e_seq ?_) | (refine k_bin ?_; refine s_lss rfl rfl ?_)))
  (first | (refine k_C ?_; (refine s_ifd rfl ?_ ?_ <;> intro hc <;> try (exfalso; omega))))
  · have hmn : m < (nth (nth p.fFuncs.xs i).fBlocks.xs (nth (nth (nth p.fFuncs.xs i).fBlocks.xs n).fEnd.fWays.xs j).fTo.toNat).fParams.xs.length := by omega
    cases pa with
    | true =>
      (repeat' (first | refine s_move ?_ | refine s_assign ?_ | refine s_nil ?_ | (refine k_C ?_; first | refine s_seq ?_ | refine s_region ?_ | refine s_skip ?_ | refine s_block ?_) | (refine k_E ?_; first | refine e_seq ?_ | refine e_bk ?_) | (refine k_load ?_; refine s_ldS rfl rfl om rfl ?_) | (refine k_bin ?_; refine s_add1 rfl rfl om ?_) | (refine k_idx ?_; refine s_idxS rfl rfl om ?_) | (refine k_guard ?_; refine s_off rfl rfl rfl rfl ?_) | refine s_pick rfl ?_))
      exact e_lp (m + 1, true) (by repeat (first | exact trivial | refine ⟨rfl, ?_⟩)) ⟨by show m + 1 ≤ _; omega, mem_take hmn hpa (by simp)⟩ (by show _ - _ < _ - _; omega) PSub.refl
    | false =>
      (repeat' (first | refine s_move ?_ | refine s_assign ?_ | refine s_nil ?_ | (refine k_C ?_; first | refine s_seq ?_ | refine s_region ?_ | refine s_skip ?_ | refine s_block ?_) | (refine k_E ?_; first | refine e_seq ?_ | refine e_bk ?_) | (refine k_load ?_; refine s_ldS rfl rfl om rfl ?_) | (refine k_bin ?_; first | refine s_add1 rfl rfl om ?_ | refine s_eql rfl rfl ?_) | (refine k_idx ?_; refine s_idxS rfl rfl om ?_) | (refine k_guard ?_; refine s_on rfl rfl ?_) | refine s_pick rfl ?_))
      exact e_lp (m + 1, decide (nth (nth (nth p.fFuncs.xs i).fBlocks.xs (nth (nth (nth p.fFuncs.xs i).fBlocks.xs n).fEnd.fWays.xs j).fTo.toNat).fParams.xs m = vv)) (by repeat (first | exact trivial | refine ⟨rfl, ?_⟩)) ⟨by show m + 1 ≤ _; omega, mem_take hmn hpa (by simp)⟩ (by show _ - _ < _ - _; omega) PSub.refl
  have hmE : m = (nth (nth p.fFuncs.xs i).fBlocks.xs (nth (nth (nth p.fFuncs.xs i).fBlocks.xs n).fEnd.fWays.xs j).fTo.toNat).fParams.xs.length := by omega
  subst hmE
  rw [List.take_length] at hpa
  cases ou with
  | true =>
    (repeat' (first | refine s_move ?_ | refine s_assign ?_ | refine s_nil ?_ | (refine k_C ?_; first | refine s_region ?_ | refine s_exit ?_) | (refine k_E ?_; first | refine e_seq ?_ | refine e_seq_exit ?_ | refine e_bk_exit ?_ | refine e_bk ?_ | refine e_lp_exit ?_) | (refine k_bin ?_; refine s_add1 rfl rfl om ?_) | (refine k_guard ?_; first | refine s_off rfl rfl rfl rfl ?_ | refine s_offU rfl rfl rfl rfl ?_) | refine s_pick rfl ?_))
    exact e_lp (j + 1, true) (by repeat (first | exact trivial | refine ⟨rfl, ?_⟩)) ⟨by show j + 1 ≤ _; omega, ex_take hjn hou (by simp)⟩ (by show _ - _ < _ - _; omega) (PSub.take [1, 1, 1, 1, 1, 1, 1, 1, 1, 1, 1] rfl)
  | false =>
    cases pa with
    | true =>
      (repeat' (first | refine s_move ?_ | refine s_assign ?_ | refine s_nil ?_ | (refine k_C ?_; first | refine s_region ?_ | refine s_exit ?_) | (refine k_E ?_; first | refine e_seq ?_ | refine e_seq_exit ?_ | refine e_bk_exit ?_ | refine e_bk ?_ | refine e_lp_exit ?_) | (refine k_bin ?_; refine s_add1 rfl rfl om ?_) | (refine k_guard ?_; first | refine s_on rfl rfl ?_ | refine s_off rfl rfl rfl rfl ?_) | refine s_not rfl ?_ | refine s_pick rfl ?_))
      exact e_lp (j + 1, false) (by repeat (first | exact trivial | refine ⟨rfl, ?_⟩)) ⟨by show j + 1 ≤ _; omega, ex_take hjn hou ⟨fun h => (by cases h), fun h => h.elim (fun h => (by cases h)) fun h => absurd (hpa.1 rfl) h.2⟩⟩ (by show _ - _ < _ - _; omega) (PSub.take [1, 1, 1, 1, 1, 1, 1, 1, 1, 1, 1] rfl)
    | false =>
      (repeat' (first | refine s_move ?_ | (refine k_C ?_; first | refine s_region ?_ | refine s_exit ?_) | (refine k_E ?_; first | refine e_seq ?_ | refine e_seq_exit ?_ | refine e_bk_exit ?_ | refine e_lp_exit ?_) | (refine k_load ?_; first | refine s_ldB rfl rfl ?_ | refine s_ldBW rfl rfl ?_) | (refine k_fld ?_; refine s_fldB rfl ?_) | (refine k_guard ?_; refine s_on rfl rfl ?_) | refine s_not rfl ?_))
      have hsp := later15_spec (nth p.fFuncs.xs i) hFo.1 hFw (fun b hb => hG.way hb) I O hQ (nth (nth (nth p.fFuncs.xs i).fBlocks.xs n).fEnd.fWays.xs j).fTo.toNat 0 htn (Nat.zero_le _) vv (by omega)
      rw [hto, show liveB (nth (nth p.fFuncs.xs i).fBlocks.xs (nth (nth (nth p.fFuncs.xs i).fBlocks.xs n).fEnd.fWays.xs j).fTo.toNat) (O (nth (nth (nth p.fFuncs.xs i).fBlocks.xs n).fEnd.fWays.xs j).fTo.toNat) 0 = I (nth (nth (nth p.fFuncs.xs i).fBlocks.xs n).fEnd.fWays.xs j).fTo.toNat from (hQ.at_ _ htn).1.symm] at hsp
      refine s_call0 hsp rfl (fun w1 H => H.rdD (by infer_instance)) ?_
      rintro r L' ⟨rfl, rfl⟩
      (repeat' (first | refine s_move ?_ | refine s_assign ?_ | refine s_nil ?_ | (refine k_C ?_; refine s_region ?_) | (refine k_E ?_; first | refine e_seq ?_ | refine e_bk ?_) | (refine k_bin ?_; refine s_add1 rfl rfl om ?_) | (refine k_guard ?_; refine s_on rfl rfl ?_) | refine s_pick rfl ?_))
      exact e_lp (j + 1, I (nth (nth (nth p.fFuncs.xs i).fBlocks.xs n).fEnd.fWays.xs j).fTo.toNat vv) (by repeat (first | exact trivial | refine ⟨rfl, ?_⟩)) ⟨by show j + 1 ≤ _; omega, ex_take hjn hou ⟨fun h => .inr ⟨h, fun h2 => (by have := hpa.2 h2; cases this)⟩, fun h => h.elim (fun h => (by cases h)) fun h => h.1⟩⟩ (by show _ - _ < _ - _; omega) (PSub.take [1, 1, 1, 1, 1, 1, 1, 1, 1, 1, 1] rfl)
end Go.Proofs.Ytfplmdjlgjgbgaa
