/- Layer 15: good; LiveSame, walked. -/
import Derived.Test.YtfplmdjlgjgbgaaV16
import Derived.Test.YtfplmdjlgjgbgaaV14
import Derived.Test.YtfplmdjlgjgbgaaS28
namespace Go.Proofs.Ytfplmdjlgjgbgaa
set_option linter.unusedVariables false
set_option linter.unusedSimpArgs false
open Go Go.RowKit

theorem good15_spec (p : SsaProg) : Spec Try.prog 11 [.agg (Enc.enc p).toArray] [] (fun ok w => RdD ok w p) fun r L' => ∃ b, r = .bool b ∧ L' = [] ∧ (b = true → FewPr p ∧ checkB p = true) := by
  refine spec_of Try.func11 rfl rfl fun w0 f0 hR => ?_
  (repeat' (first | refine s_assign ?_ | refine s_nil ?_ | (refine k_C ?_; first | refine s_seq ?_ | refine s_region ?_) | (refine k_E ?_; refine e_seq ?_) | (refine k_load ?_; refine s_ldBW rfl rfl ?_) | (refine s_box _ rfl ?_; intro b)))
  refine s_call0 (few_spec p) rfl (fun w1 H => H.rdD (by infer_instance)) ?_
  rintro r L' ⟨few, rfl, rfl, hfew⟩
  (repeat' (first | refine s_move ?_ | refine s_assign ?_ | refine s_nil ?_ | (refine k_C ?_; refine s_ret ?_) | (refine k_E ?_; refine e_seq ?_) | (refine k_load ?_; refine s_ldBW rfl rfl ?_) | (refine k_guard ?_; first | refine s_on rfl rfl ?_ | refine s_off rfl rfl rfl rfl ?_ | (refine s_cases rfl rfl ?_ ?_ <;> intro hc)) | refine s_pick rfl ?_))
  · have hp := hfew (by simpa using hc)
    refine s_call0 (check_spec p (fewP_pr hp)) rfl (fun w1 H => H.rdD (by infer_instance)) ?_
    rintro r L' ⟨rfl, rfl⟩
    by_cases hck : checkB p = true
    · rw [if_pos hck]
      (repeat' (first | refine s_assign ?_ | refine s_nil ?_ | (refine k_C ?_; refine s_ret ?_) | (refine k_E ?_; refine e_seq ?_) | (refine k_bin ?_; refine s_eql rfl rfl ?_) | (refine k_guard ?_; refine s_on rfl rfl ?_) | refine s_pick rfl ?_))
      exact e_done rfl rfl [] (PSub.take [] rfl) ⟨true, rfl, rfl, fun _ => ⟨hp, hck⟩⟩
    · rw [if_neg hck]
      (repeat' (first | refine s_assign ?_ | refine s_nil ?_ | (refine k_C ?_; refine s_ret ?_) | (refine k_E ?_; refine e_seq ?_) | (refine k_bin ?_; refine s_eql rfl rfl ?_) | (refine k_guard ?_; refine s_on rfl rfl ?_) | refine s_pick rfl ?_))
      exact e_done rfl rfl [] (PSub.take [] rfl) ⟨false, rfl, rfl, fun h => (by cases h)⟩
  exact e_done rfl rfl [] (PSub.take [] rfl) ⟨false, rfl, rfl, fun h => (by cases h)⟩
theorem len_flatMap {α β : Type} {g : α → List β} {c : Nat} : ∀ {l : List α}, (∀ x ∈ l, (g x).length ≤ c) → (l.flatMap g).length ≤ l.length * c
  | [], _ => Nat.zero_le _
  | a :: l, h => by
    rw [List.flatMap_cons, List.length_append, List.length_cons, Nat.succ_mul]
    have h1 := h a (by simp)
    have h2 := len_flatMap (l := l) fun x hx => h x (by simp [hx])
    omega
theorem usB_few {b : SsaBlock} (h : FewBk b) : (usB b).length ≤ 901 ∧ (usesE b.fEnd).length ≤ 101 := by
  have hi := h.i
  have hw := h.w
  have h1 : (b.fIns.xs.flatMap (·.fArgs.xs)).length ≤ b.fIns.xs.length * 20 := len_flatMap fun x hx => by
    obtain ⟨m, hm, rfl⟩ := List.getElem_of_mem hx
    rw [← nth_get hm]; exact h.ia m hm
  have h2 : (b.fEnd.fWays.xs.flatMap (·.fArgs.xs)).length ≤ b.fEnd.fWays.xs.length * 20 := len_flatMap fun x hx => by
    obtain ⟨m, hm, rfl⟩ := List.getElem_of_mem hx
    rw [← nth_get hm]; exact h.wa m hm
  have h3 : (usesE b.fEnd).length ≤ 101 := by
    unfold usesE
    rw [List.length_append]
    split <;> simp only [List.length_cons, List.length_nil] <;> omega
  refine ⟨?_, h3⟩
  unfold usB
  rw [List.length_append]
  omega
theorem few_okF {f : SsaFunc} (h : FewFn f) : OkF f ∧ (usP f).length ≤ 900000000 := by
  have hb := h.b
  have h1 : (usU f).length ≤ f.fBlocks.xs.length * 901 := len_flatMap fun x hx => by
    obtain ⟨m, hm, rfl⟩ := List.getElem_of_mem hx
    rw [← nth_get hm]; exact (usB_few (h.k m hm)).1
  have h2 : (f.fBlocks.xs.flatMap fun b => b.fParams.xs).length ≤ f.fBlocks.xs.length * 20 := len_flatMap fun x hx => by
    obtain ⟨m, hm, rfl⟩ := List.getElem_of_mem hx
    rw [← nth_get hm]; exact (h.k m hm).p
  refine ⟨⟨by omega, fun i hi => ?_, by omega⟩, by unfold usP; rw [List.length_append]; omega⟩
  have hk := h.k i hi
  have q1 := hk.p
  have q2 := hk.i
  have q3 := hk.w
  have q4 := (usB_few hk).2
  exact ⟨by omega, by omega, fun m hm => Nat.le_trans (hk.ia m hm) (by omega), by omega, by omega⟩
set_option maxHeartbeats 8000000 in
theorem liveSame_spec (p : SsaProg) (most : Int) : Spec Try.prog 6 [.agg (Enc.enc p).toArray, .int .i64 most] [] (fun ok w => RdD ok w p) fun r L' => r = .bool true ∧ L' = [] := by
  refine spec_of Try.func6 rfl rfl fun w0 f0 hR => ?_
  (repeat' (first | refine s_assign ?_ | refine s_nil ?_ | (refine k_C ?_; first | refine s_seq ?_ | refine s_region ?_) | (refine k_E ?_; refine e_seq ?_) | (refine s_box _ rfl ?_; intro b)))
  obtain ⟨b2, rfl⟩ : ∃ q, q = b := ⟨_, rfl⟩
  refine s_call0 head15_spec rfl (fun _ _ => trivial) ?_
  rintro r L' ⟨rfl, rfl⟩
  (repeat' (first | refine s_nil ?_ | (refine k_C ?_; first | refine s_seq ?_ | refine s_region ?_ | refine s_skip ?_ | refine s_iff rfl ?_) | (refine k_E ?_; refine e_seq ?_) | (refine k_load ?_; refine s_ldBW rfl rfl ?_) | refine s_not rfl ?_))
  refine s_call0 (good15_spec p) rfl (fun w1 H => H.rdD (by infer_instance)) ?_
  rintro r L' ⟨gd, rfl, rfl, hgd⟩
  (repeat' (first | refine s_move ?_ | refine s_assign ?_ | refine s_nil ?_ | (refine k_C ?_; first | refine s_seq ?_ | refine s_region ?_ | refine s_skip ?_ | refine s_ret ?_ | (refine s_if rfl ?_ ?_ <;> intro hc)) | (refine k_E ?_; first | refine e_seq ?_ | refine e_seq_ret ?_) | refine s_not rfl ?_))
  · exact e_done rfl rfl [] (PSub.take [] rfl) ⟨rfl, rfl⟩
  obtain ⟨hp, hck⟩ := hgd (by simpa using hc)
  have hpf := hp.f
  refine s_andM (c := 15) rfl rfl (by decide) ?_
  intro mo hmo
  (repeat' (first | refine s_move ?_ | refine s_assign ?_ | refine s_nil ?_ | (refine k_C ?_; first | refine s_seq ?_ | refine s_region ?_ | refine s_block ?_) | (refine k_E ?_; refine e_seq ?_) | (refine k_load ?_; refine s_ldB rfl rfl ?_) | (refine k_fld ?_; refine s_fldB rfl ?_) | (refine k_call ?_; refine s_len rfl ?_)))
  refine s_loop (σ := Nat) (fun i => [(1, .int .i64 (mo : Nat)), (2, .pointer (some ⟨b2, 0, none⟩)), (22, .slice p.fFuncs.A p.fFuncs.xs.length p.fFuncs.c), (23, .int .i64 p.fFuncs.xs.length), (24, .int .i64 (i : Nat))])
    (fun _ => [var 48 b2 p]) (fun i => i ≤ p.fFuncs.xs.length) (fun i => p.fFuncs.xs.length - i) 0 (by repeat (first | exact trivial | refine ⟨rfl, ?_⟩)) (Nat.zero_le _) PSub.refl ?_
  rintro g i hi
  (repeat' (first | refine s_nil ?_ | (refine k_C ?_; first | refine s_seq ?_ | refine s_region ?_) | (refine k_E ?_; refine e_seq ?_) | (refine k_bin ?_; refine s_lss rfl rfl ?_)))
  (first | (refine k_C ?_; (refine s_ifd rfl ?_ ?_ <;> intro hc <;> try (exfalso; omega))))
  rotate_left
  · (repeat' (first | refine s_assign ?_ | refine s_nil ?_ | (refine k_C ?_; first | refine s_seq ?_ | refine s_region ?_ | refine s_exit ?_ | refine s_ret ?_) | (refine k_E ?_; first | refine e_seq ?_ | refine e_seq_exit ?_ | refine e_bk_exit ?_ | refine e_lp_exit ?_)))
    exact e_done rfl rfl [] (PSub.take [] rfl) ⟨rfl, rfl⟩
  have hin : i < p.fFuncs.xs.length := by omega
  have hFo := few_okF (hp.k i hin)
  (repeat' (first | refine s_nil ?_ | (refine k_C ?_; first | refine s_seq ?_ | refine s_region ?_ | refine s_skip ?_ | refine s_block ?_) | (refine k_E ?_; refine e_seq ?_) | (refine k_load ?_; first | refine s_ldBW rfl rfl ?_ | refine s_ldSA rfl rfl om rfl ?_) | (refine k_idx ?_; refine s_idxS rfl rfl om ?_) | (refine k_store ?_; refine s_stW _ rfl rfl ?_) | (refine s_alloc ?_; intro b)))
  obtain ⟨b6, rfl⟩ : ∃ q, q = b := ⟨_, rfl⟩
  refine s_call0 (press15_spec (nth p.fFuncs.xs i) hFo.1 hFo.2) rfl (fun w1 H => H.rdD (by infer_instance)) ?_
  rintro r L' ⟨I, O, o, hQ, ho, rfl, rfl⟩
  generalize hpr : pressF (nth p.fFuncs.xs i) I O o = pr
  (repeat' (first | refine s_move ?_ | refine s_assign ?_ | refine s_nil ?_ | (refine k_C ?_; first | refine s_seq ?_ | refine s_region ?_ | refine s_skip ?_ | refine s_exit ?_ | (refine s_ifd rfl ?_ ?_ <;> intro hc <;> try (exfalso; omega))) | (refine k_E ?_; first | refine e_seq ?_ | refine e_seq_exit ?_ | refine e_bk_exit ?_) | (refine k_load ?_; refine s_ldBW rfl rfl ?_) | (refine k_bin ?_; first | refine s_add1 rfl rfl om ?_ | refine s_gtr rfl rfl ?_) | (refine k_call ?_; refine s_max rfl rfl ?_)))
  · exact e_lp (i + 1) (by repeat (first | exact trivial | refine ⟨rfl, ?_⟩)) (by omega) (by show _ - _ < _ - _; omega) (PSub.take [1] rfl)
  obtain ⟨M, hMe, hM1, hM2⟩ : ∃ M : Nat, max (1 : Int) (pr : Int) = (M : Int) ∧ 1 ≤ M ∧ pr ≤ M := ⟨max 1 pr, by omega, by omega, by omega⟩
  rw [hMe] at hc ⊢
  refine s_call0 (paint15_spec (nth p.fFuncs.xs i) hFo.1 (M : Int)) rfl (fun w1 H => H.rdD (by infer_instance)) ?_
  rintro r L' (⟨h1, _⟩ | ⟨_, _, I1, O1, o1, hQ1, ho1, ⟨rb1, N1, R1, rfl, hP1, rfl⟩ | ⟨rfl, hP1, rfl⟩⟩)
  · omega
  rotate_left
  · have := pressF_uniq hQ1 hQ ho1 ho
    exact absurd hP1 (press_enough hQ1 ho1 (by omega))
  (repeat' (first | refine s_move ?_ | refine s_assign ?_ | refine s_nil ?_ | (refine k_C ?_; first | refine s_seq ?_ | refine s_region ?_) | (refine k_E ?_; refine e_seq ?_) | (refine k_load ?_; refine s_ldBW rfl rfl ?_) | (refine k_bin ?_; refine s_add64 rfl rfl om ?_) | refine s_extract rfl rfl ?_))
  refine s_call0 (paint15_spec (nth p.fFuncs.xs i) hFo.1 ((M : Int) + (mo : Int))) rfl (fun w1 H => H.rdD (by infer_instance)) ?_
  rintro r L' (⟨h1, _⟩ | ⟨_, _, I2, O2, o2, hQ2, ho2, ⟨rb2, N2, R2, rfl, hP2, rfl⟩ | ⟨rfl, hP2, rfl⟩⟩)
  · omega
  rotate_left
  · have := pressF_uniq hQ2 hQ ho2 ho
    exact absurd hP2 (press_enough hQ2 ho2 (by omega))
  rw [jobsF_uniq hQ2 hQ1 ho2 ho1] at hP2
  obtain rfl := hP1.det hP2
  (repeat' (first | refine s_move ?_ | refine s_assign ?_ | refine s_nil ?_ | (refine k_C ?_; first | refine s_seq ?_ | refine s_region ?_) | (refine k_E ?_; refine e_seq ?_) | (refine k_bin ?_; refine s_neq rfl rfl ?_) | (refine k_guard ?_; refine s_on rfl rfl ?_) | refine s_pick rfl ?_ | refine s_extract rfl rfl ?_))
  refine s_lenC rfl ?_
  intro ks1 hn1 hm1
  (repeat' (first | refine s_move ?_ | (refine k_guard ?_; refine s_on rfl rfl ?_)))
  refine s_lenC rfl ?_
  intro ks2 hn2 hm2
  have hll : ks1.length = ks2.length := Nat.le_antisymm (nodup_le hn1 fun k hk => (hm2 k).2 ((hm1 k).1 hk)) (nodup_le hn2 fun k hk => (hm1 k).2 ((hm2 k).1 hk))
  (repeat' (first | refine s_move ?_ | refine s_nil ?_ | (refine k_C ?_; first | refine s_seq ?_ | refine s_region ?_ | refine s_skip ?_ | (refine s_ifn rfl ?_ ?_ <;> intro hc <;> try (exfalso; omega))) | (refine k_E ?_; refine e_seq ?_) | (refine k_bin ?_; refine s_neq rfl rfl ?_) | (refine k_guard ?_; refine s_on rfl rfl ?_) | refine s_pick rfl ?_))
  refine so_sub (L' := [mp EI 3 rb1 N1 R1, mp EI 3 rb2 N2 R1, var 38 b6 (nth p.fFuncs.xs i), var 48 b2 p]) (PSub.take [1, 0, 0, 0] rfl) ?_
  refine s_rangeD rfl ?_
  intro cnt r
  (repeat' (first | refine s_nil ?_ | (refine k_C ?_; refine s_block ?_) | (refine k_E ?_; refine e_seq ?_)))
  refine s_loop (σ := (Int → Bool) × Nat) (fun z => [(1, .int .i64 (mo : Nat)), (2, .pointer (some ⟨b2, 0, none⟩)), (22, .slice p.fFuncs.A p.fFuncs.xs.length p.fFuncs.c), (23, .int .i64 p.fFuncs.xs.length), (24, .int .i64 (i : Nat)), (8, .map (some rb1)), (10, .map (some rb2)), (61, .pointer (some ⟨r, 0, none⟩))])
    (fun z => [rgD EI 3 rb1 r N1 R1 z.1 z.2, mp EI 3 rb2 N2 R1, var 38 b6 (nth p.fFuncs.xs i), var 48 b2 p]) (fun _ => True) (fun z => z.2) ((fun k => (R1 k).isSome), cnt) (by repeat (first | exact trivial | refine ⟨rfl, ?_⟩)) trivial PSub.refl ?_
  rintro g3 ⟨todo, c1⟩ _
  (repeat' (first | (refine k_C ?_; first | refine s_seq ?_ | refine s_region ?_)))
  refine s_nextD U_3 rfl (fun hfin => ?_) (fun k x cnt' hk hg ht hF hlt => ?_)
  · (repeat' (first | refine s_move ?_ | refine s_nil ?_ | (refine k_C ?_; first | refine s_seq ?_ | refine s_region ?_ | refine s_exit ?_ | refine s_iff rfl ?_) | (refine k_E ?_; first | refine e_seq ?_ | refine e_seq_exit ?_ | refine e_bk_exit ?_ | refine e_bk ?_ | refine e_lp_exit ?_) | (refine k_bin ?_; refine s_add1 rfl rfl om ?_) | refine s_extract rfl rfl ?_))
    exact e_lp (i + 1) (by repeat (first | exact trivial | refine ⟨rfl, ?_⟩)) (by omega) (by show _ - _ < _ - _; omega) (PSub.take [3] rfl)
  (repeat' (first | refine s_nil ?_ | (refine k_C ?_; first | refine s_seq ?_ | refine s_region ?_ | refine s_skip ?_ | refine s_block ?_ | refine s_ift rfl ?_) | (refine k_E ?_; refine e_seq ?_) | refine s_extract rfl rfl ?_))
  refine s_entryD rfl ?_
  (repeat' (first | refine s_move ?_ | refine s_assign ?_ | refine s_nil ?_ | (refine k_C ?_; first | refine s_seq ?_ | refine s_region ?_) | (refine k_E ?_; refine e_seq ?_) | refine s_extract rfl rfl ?_))
  refine s_look rfl rfl hk ?_
  rw [hF, Option.getD_some]
  (repeat' (first | refine s_move ?_ | refine s_nil ?_ | (refine k_C ?_; first | refine s_skip ?_ | (refine s_ifn rfl ?_ ?_ <;> intro hc <;> try (exfalso; omega))) | (refine k_E ?_; first | refine e_seq ?_ | refine e_bk ?_) | (refine k_bin ?_; refine s_neq rfl rfl ?_)))
  exact e_lp (fun j => todo j && j != k, cnt') (by repeat (first | exact trivial | refine ⟨rfl, ?_⟩)) trivial hlt PSub.refl
end Go.Proofs.Ytfplmdjlgjgbgaa
