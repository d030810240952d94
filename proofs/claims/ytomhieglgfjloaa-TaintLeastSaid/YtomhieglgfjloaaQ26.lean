/- Layer 12: TaintLeast, walked. -/
import Derived.Test.YtomhieglgfjloaaQ25
import Derived.Test.YtomhieglgfjloaaQ10
namespace Go.Proofs.Ytomhieglgfjloaa
set_option linter.unusedVariables false
set_option linter.unusedSimpArgs false
open Go Go.RowKit

def lev (a b : Bool) : Int := if b = true then 2 else if a = true then 1 else 0
theorem level_spec (a b : Bool) : Spec Try.prog 12 ([.bool a, .bool b] ++ []) [] (fun _ _ => True) fun r L' => r = .int .i64 (lev a b) ∧ L' = [] := by
  refine spec_of Try.func12 rfl rfl fun w0 f0 _ => ?_
  cases a <;> cases b
  · (repeat' (first | refine s_move ?_ | refine s_assign ?_ | refine s_nil ?_ | (refine k_C ?_; first | refine s_seq ?_ | refine s_region ?_ | refine s_skip ?_ | refine s_ret ?_ | refine s_iff rfl ?_) | (refine k_E ?_; refine e_seq ?_)))
    exact e_done rfl rfl [] (PSub.take [] rfl) ⟨rfl, rfl⟩
  · (repeat' (first | refine s_move ?_ | refine s_assign ?_ | refine s_nil ?_ | (refine k_C ?_; first | refine s_seq ?_ | refine s_region ?_ | refine s_ret ?_ | refine s_ift rfl ?_) | (refine k_E ?_; first | refine e_seq ?_ | refine e_seq_ret ?_)))
    exact e_done rfl rfl [] (PSub.take [] rfl) ⟨rfl, rfl⟩
  · (repeat' (first | refine s_move ?_ | refine s_assign ?_ | refine s_nil ?_ | (refine k_C ?_; first | refine s_seq ?_ | refine s_region ?_ | refine s_skip ?_ | refine s_ret ?_ | refine s_ift rfl ?_ | refine s_iff rfl ?_) | (refine k_E ?_; first | refine e_seq ?_ | refine e_seq_ret ?_)))
    exact e_done rfl rfl [] (PSub.take [] rfl) ⟨rfl, rfl⟩
  · (repeat' (first | refine s_move ?_ | refine s_assign ?_ | refine s_nil ?_ | (refine k_C ?_; first | refine s_seq ?_ | refine s_region ?_ | refine s_ret ?_ | refine s_ift rfl ?_) | (refine k_E ?_; first | refine e_seq ?_ | refine e_seq_ret ?_)))
    exact e_done rfl rfl [] (PSub.take [] rfl) ⟨rfl, rfl⟩
theorem lev_of {x : Int} (h : 0 ≤ x ∧ x ≤ 2) : lev (decide (1 ≤ x)) (decide (2 ≤ x)) = x := by
  unfold lev
  simp only [decide_eq_true_eq]
  split
  · omega
  · split <;> omega
theorem lev_ne {x : Int} (h : 0 ≤ x ∧ x ≤ 2) (h1 : x ≠ 1) : lev false (decide (2 ≤ x)) = x := by
  unfold lev
  simp only [decide_eq_true_eq]
  split
  · omega
  · rw [if_neg (by decide)]; omega
/-- The two levels together. -/
theorem levels_of {p : SsaProg} (hG : GoodP p) {Cf : Nat → Int → Option Bool} {s : LSt} (h : Labd p (fun f v => (Cf f v).getD false) s) (hr : ∀ g, 0 ≤ labL s g ∧ labL s g ≤ 2) {sa : Bool} {W : List Bool} {H : Fb} (hW : ∀ a, a < p.fArrays.xs.length → nth (writesL p) a = (sa || nth W a))
    {M1 M2 : Fb} (hH : H = roundsF (xHi Cf) (fqP p (xHi Cf) p.fFuncs.xs.length) (partsP p + p.fArrays.xs.length + 2) (baseF p)) (h1 : M1 = roundsF (xLo Cf W sa H) (fqP p (xLo Cf W sa H) p.fFuncs.xs.length) (partsP p + p.fArrays.xs.length + 2) (baseF p)) (h2 : M2 = roundsF (xHi Cf) (fqP p (xHi Cf) p.fFuncs.xs.length) (partsP p + p.fArrays.xs.length + 2) (baseF p)) :
    (∀ g, M1 g = decide (1 ≤ labL s g)) ∧ ∀ g, M2 g = decide (2 ≤ labL s g) := by
  have hl := allT_len (p := p)
  have e2 := high_of hG h hr (x := xHi Cf) rfl rfl rfl (n := partsP p + p.fArrays.xs.length + 2) (roundsF_closed (T := allT p) (allT_in hG) (by omega))
  have e3 : H = fun g => decide (2 ≤ labL s g) := by rw [hH]; exact funext e2
  subst e3
  have e1 := low_of hG h hr (x := xLo Cf W sa fun g => decide (2 ≤ labL s g)) rfl rfl rfl hW (n := partsP p + p.fArrays.xs.length + 2) (roundsF_closed (T := allT p) (allT_in hG) (by omega))
  exact ⟨by rw [h1]; exact e1, by rw [h2]; exact e2⟩
set_option maxRecDepth 100000 in
set_option maxHeartbeats 20000000 in
theorem taintLeast_spec (p : SsaProg) (cut : Sl Mr) (Nc : Nat → Nat) (Cf : Nat → Int → Option Bool) (hCo : ∀ j, cut.xs.length ≤ j → Cf j = fun _ => none) :
    Spec Try.prog 3 [.agg (Enc.enc p).toArray, .slice cut.A cut.xs.length cut.c] [] (fun ok w => RdD ok w p ∧ RdCut cut Nc Cf ok w) fun r L' => r = .bool true ∧ L' = [] := by
  refine spec_of Try.func3 rfl rfl fun w0 f0 hR => ?_
  obtain ⟨hRp, hRC⟩ := hR
  have hRc := hRC.1
  have hRm := hRC.2
  (repeat' (first | refine s_assign ?_ | refine s_nil ?_ | (refine k_C ?_; first | refine s_seq ?_ | refine s_region ?_) | (refine k_E ?_; refine e_seq ?_) | (refine s_box _ rfl ?_; intro b)))
  obtain ⟨b2, rfl⟩ : ∃ q, q = b := ⟨_, rfl⟩
  refine s_call0 head12_spec rfl (fun _ _ => trivial) ?_
  rintro r L' ⟨rfl, rfl⟩
  (repeat' (first | refine s_nil ?_ | (refine k_C ?_; first | refine s_seq ?_ | refine s_region ?_ | refine s_skip ?_ | refine s_iff rfl ?_) | (refine k_E ?_; refine e_seq ?_) | (refine k_load ?_; refine s_ldBW rfl rfl ?_) | refine s_not rfl ?_))
  refine s_call0 (few_spec p) rfl (fun w1 H => H.rdD (by infer_instance)) ?_
  rintro r L' ⟨few, rfl, rfl, hfew⟩
  cases few with
  | false =>
    (repeat' (first | refine s_move ?_ | refine s_assign ?_ | refine s_nil ?_ | (refine k_C ?_; first | refine s_seq ?_ | refine s_region ?_ | refine s_ret ?_ | refine s_ift rfl ?_) | (refine k_E ?_; first | refine e_seq ?_ | refine e_seq_ret ?_) | (refine k_guard ?_; refine s_off rfl rfl rfl rfl ?_) | refine s_not rfl ?_ | refine s_pick rfl ?_))
    exact e_done rfl rfl [] (PSub.take [] rfl) ⟨rfl, rfl⟩
  | true =>
    have hp := hfew rfl
    have hpf := hp.f
    have hpa := hp.a
    (repeat' (first | refine s_move ?_ | refine s_assign ?_ | refine s_nil ?_ | (refine k_C ?_; first | refine s_seq ?_ | refine s_region ?_ | refine s_skip ?_ | refine s_block ?_ | refine s_ret ?_ | (refine s_ifd rfl ?_ ?_ <;> intro hc <;> try (exfalso; omega))) | (refine k_E ?_; first | refine e_seq ?_ | refine e_seq_ret ?_) | (refine k_bin ?_; refine s_gtr rfl rfl ?_) | (refine k_call ?_; refine s_len rfl ?_) | (refine k_guard ?_; refine s_on rfl rfl ?_) | refine s_not rfl ?_ | refine s_pick rfl ?_))
    · exact e_done rfl rfl [] (PSub.take [] rfl) ⟨rfl, rfl⟩
    have hc6 : cut.xs.length ≤ 6 := by omega
    refine s_loop (σ := Nat) (fun i => [(1, .slice cut.A cut.xs.length cut.c), (2, .pointer (some ⟨b2, 0, none⟩)), (31, .slice cut.A cut.xs.length cut.c), (32, .int .i64 cut.xs.length), (33, .int .i64 (i : Nat))]) (fun _ => [var 25 b2 p])
      (fun i => i ≤ cut.xs.length ∧ ∀ j, j < i → ∃ ks : List Int, ks.length ≤ 60 ∧ ∀ v, Cf j v ≠ none → v ∈ ks) (fun i => cut.xs.length - i) 0 (by repeat (first | exact trivial | refine ⟨rfl, ?_⟩)) ⟨Nat.zero_le _, fun j hj => absurd hj (Nat.not_lt_zero j)⟩ PSub.refl ?_
    rintro g i ⟨hi, hks⟩
    (repeat' (first | refine s_nil ?_ | (refine k_C ?_; first | refine s_seq ?_ | refine s_region ?_) | (refine k_E ?_; refine e_seq ?_) | (refine k_bin ?_; refine s_lss rfl rfl ?_)))
    (first | (refine k_C ?_; (refine s_ifd rfl ?_ ?_ <;> intro hc <;> try (exfalso; omega))))
    · have hil : i < cut.xs.length := by omega
      haveI : RdMp (P := Try.prog) EB 3 (okOf w0 f0) w0 (nth cut.xs i).b (Nc i) (Cf i) := ⟨hRm i hil⟩
      (repeat' (first | refine s_move ?_ | refine s_assign ?_ | refine s_nil ?_ | (refine k_C ?_; first | refine s_seq ?_ | refine s_region ?_ | refine s_skip ?_ | refine s_block ?_) | (refine k_E ?_; refine e_seq ?_) | (refine k_load ?_; refine s_ldS rfl rfl om rfl ?_) | (refine k_idx ?_; refine s_idxS rfl rfl om ?_)))
      refine s_lenCS (E := EB) rfl ?_
      intro ks hk1 hk2
      (repeat' (first | refine s_move ?_ | refine s_assign ?_ | refine s_nil ?_ | (refine k_C ?_; first | refine s_seq ?_ | refine s_region ?_ | refine s_skip ?_ | refine s_ret ?_ | (refine s_ifd rfl ?_ ?_ <;> intro hc <;> try (exfalso; omega))) | (refine k_E ?_; first | refine e_seq ?_ | refine e_seq_ret ?_ | refine e_bk_ret ?_ | refine e_bk ?_ | refine e_lp_ret ?_) | (refine k_bin ?_; first | refine s_add1 rfl rfl om ?_ | refine s_gtr rfl rfl ?_)))
      · exact e_done rfl rfl [] (PSub.take [] rfl) ⟨rfl, rfl⟩
      have hk60 : ks.length ≤ 60 := by omega
      exact e_lp (i + 1) (by repeat (first | exact trivial | refine ⟨rfl, ?_⟩)) ⟨by show i + 1 ≤ _; omega, fun j hj => by
        by_cases e : j < i
        · exact hks j e
        · obtain rfl : j = i := by have : j < i + 1 := hj; omega
          exact ⟨ks, hk60, fun v hv => (hk2 v).2 hv⟩⟩ (by show _ - _ < _ - _; omega) PSub.refl
    have hiE : i = cut.xs.length := by omega
    subst hiE
    obtain ⟨Kc, hKc⟩ : ∃ Kc : Nat → List Int, ∀ j, (Kc j).length ≤ 60 ∧ (j < cut.xs.length → ∀ v, Cf j v ≠ none → v ∈ Kc j) := by
      have hex : ∀ j, ∃ ks : List Int, ks.length ≤ 60 ∧ (j < cut.xs.length → ∀ v, Cf j v ≠ none → v ∈ ks) := fun j => by
        by_cases hj : j < cut.xs.length
        · obtain ⟨ks, h1, h2⟩ := hks j hj
          exact ⟨ks, h1, fun _ => h2⟩
        · exact ⟨[], Nat.zero_le _, fun h => absurd h hj⟩
      exact ⟨fun j => Classical.choose (hex j), fun j => Classical.choose_spec (hex j)⟩
    have hcu : CutOk cut Cf Kc := ⟨by omega, fun j hj => (hKc j).2 hj, fun j => by have := (hKc j).1; omega, hCo⟩
    clear hks
    (repeat' (first | refine s_move ?_ | (refine k_C ?_; first | refine s_seq ?_ | refine s_region ?_ | refine s_exit ?_) | (refine k_E ?_; first | refine e_seq ?_ | refine e_seq_exit ?_ | refine e_bk_exit ?_ | refine e_lp_exit ?_) | (refine k_load ?_; refine s_ldBW rfl rfl ?_)))
    refine s_call0 (taintOf_spec p hp cut Nc Cf Kc hcu) rfl (fun w1 H => ⟨H.rdD (by infer_instance), (RdCut.lasts cut Nc Cf).at hRC H⟩) ?_
    rintro r L' (⟨hck, rfl, rfl⟩ | ⟨hck, l, mv, mc, s, rfl, hL, hrng, hla, hlr, hvl, hvb, hcl, rfl⟩)
    · (repeat' (first | refine s_move ?_ | refine s_assign ?_ | refine s_nil ?_ | (refine k_C ?_; first | refine s_seq ?_ | refine s_region ?_) | (refine k_E ?_; refine e_seq ?_) | (refine k_load ?_; refine s_ldBW rfl rfl ?_) | (refine k_store ?_; refine s_stW _ rfl rfl ?_) | (refine s_alloc ?_; intro b) | refine s_extract rfl rfl ?_))
      refine s_call0 (check_spec p (fewP_pr hp)) rfl (fun w1 H => H.rdD (by infer_instance)) ?_
      rintro r L' ⟨rfl, rfl⟩
      rw [hck, if_neg (by simp)]
      (repeat' (first | refine s_move ?_ | refine s_assign ?_ | refine s_nil ?_ | (refine k_C ?_; first | refine s_seq ?_ | refine s_region ?_ | refine s_ret ?_ | refine s_ift rfl ?_) | (refine k_E ?_; first | refine e_seq ?_ | refine e_seq_ret ?_) | (refine k_load ?_; refine s_ldB rfl rfl ?_) | (refine k_bin ?_; first | refine s_eql rfl rfl ?_ | refine s_neq rfl rfl ?_) | (refine k_fld ?_; refine s_fldB rfl ?_) | (refine k_call ?_; refine s_len rfl ?_) | (refine k_guard ?_; refine s_on rfl rfl ?_) | refine s_pick rfl ?_))
      exact e_done rfl rfl [] (PSub.take [] rfl) ⟨rfl, rfl⟩
    (repeat' (first | refine s_move ?_ | refine s_assign ?_ | refine s_nil ?_ | (refine k_C ?_; first | refine s_seq ?_ | refine s_region ?_) | (refine k_E ?_; refine e_seq ?_) | (refine k_load ?_; refine s_ldBW rfl rfl ?_) | (refine k_store ?_; refine s_stW _ rfl rfl ?_) | (refine s_alloc ?_; intro b) | refine s_extract rfl rfl ?_))
    obtain ⟨b7, rfl⟩ : ∃ q, q = b := ⟨_, rfl⟩
    refine s_call0 (check_spec p (fewP_pr hp)) rfl (fun w1 H => H.rdD (by infer_instance)) ?_
    rintro r L' ⟨rfl, rfl⟩
    rw [hck, if_pos rfl]
    have hG := goodP_of hck
    have hlal : l.fArrays.xs.length = p.fArrays.xs.length := by rw [hla]; exact hL.al
    have hlrl : l.fRets.xs.length = p.fFuncs.xs.length := by rw [hlr]; exact hL.rl
    (repeat' (first | refine s_move ?_ | refine s_nil ?_ | (refine k_C ?_; first | refine s_seq ?_ | refine s_region ?_ | refine s_skip ?_ | refine s_iff rfl ?_ | (refine s_ifn rfl ?_ ?_ <;> intro hc <;> try (exfalso; omega))) | (refine k_E ?_; refine e_seq ?_) | (refine k_load ?_; first | refine s_ldB rfl rfl ?_ | refine s_ldBW rfl rfl ?_) | (refine k_bin ?_; refine s_neq rfl rfl ?_) | (refine k_fld ?_; refine s_fldB rfl ?_) | (refine k_call ?_; refine s_len rfl ?_) | (refine k_guard ?_; first | refine s_on rfl rfl ?_ | (refine s_casesn rfl rfl ?_ ?_ <;> intro hc <;> try (exfalso; omega))) | refine s_pick rfl ?_))
    refine s_call0 (fromLo_spec p hp hG cut Nc Cf (by omega) hCo) rfl (fun w1 H => ⟨H.rdD (by infer_instance), (RdCut.lasts cut Nc Cf).at hRC H⟩) ?_
    rintro r L' ⟨sa, W, H, hW, hH, X1, mv1, s1, rfl, h1a, h1r, h1l, h1v, h1al, h1rl, h1m, rfl⟩
    (repeat' (first | refine s_move ?_ | refine s_nil ?_ | (refine k_C ?_; first | refine s_seq ?_ | refine s_region ?_) | (refine k_E ?_; refine e_seq ?_) | (refine k_load ?_; refine s_ldBW rfl rfl ?_) | (refine k_store ?_; refine s_stW _ rfl rfl ?_) | (refine s_alloc ?_; intro b)))
    obtain ⟨b9, rfl⟩ : ∃ q, q = b := ⟨_, rfl⟩
    refine s_call0 (fromHi_spec p hp hG cut Nc Cf (by omega) hCo) rfl (fun w1 H => ⟨H.rdD (by infer_instance), (RdCut.lasts cut Nc Cf).at hRC H⟩) ?_
    rintro r L' ⟨X2, mv2, s2, rfl, h2a, h2r, h2l, h2v, h2al, h2rl, h2m, rfl⟩
    obtain ⟨hlo, hhi⟩ := levels_of hG hL hrng hW hH h1m h2m
    have hne := hL.ne hrng
    clear hH h1m h2m
    have h2a2 : X2.fArrays.xs.length = p.fArrays.xs.length := by rw [h2a]; exact h2al
    have h2r2 : X2.fRets.xs.length = p.fFuncs.xs.length := by rw [h2r]; exact h2rl
    (repeat' (first | refine s_move ?_ | refine s_assign ?_ | refine s_nil ?_ | (refine k_C ?_; first | refine s_seq ?_ | refine s_region ?_ | refine s_block ?_) | (refine k_E ?_; refine e_seq ?_) | (refine k_load ?_; refine s_ldB rfl rfl ?_) | (refine k_fld ?_; refine s_fldB rfl ?_) | (refine k_store ?_; refine s_stW _ rfl rfl ?_) | (refine k_call ?_; refine s_len rfl ?_) | (refine s_alloc ?_; intro b)))
    obtain ⟨b10, rfl⟩ : ∃ q, q = b := ⟨_, rfl⟩
    refine s_loop (σ := Nat) (fun i => [(2, .pointer (some ⟨b2, 0, none⟩)), (7, .pointer (some ⟨b7, 0, none⟩)), (9, .pointer (some ⟨b9, 0, none⟩)), (10, .pointer (some ⟨b10, 0, none⟩)), (11, .func (.func 12) #[] #[]), (103, .slice p.fFuncs.A p.fFuncs.xs.length p.fFuncs.c), (104, .int .i64 p.fFuncs.xs.length), (105, .int .i64 (i : Nat))]) (fun _ => [var 25 b2 p, var 33 b7 l, var 40 b9 X1, var 40 b10 X2, own 56 l.fVals.A l.fVals.xs.length l.fVals.c l.fVals.xs, own 42 l.fArrays.A l.fArrays.xs.length l.fArrays.c l.fArrays.xs, own 42 l.fRets.A l.fRets.xs.length l.fRets.c l.fRets.xs, bagG EL 3 (fun j => (madeAll (nth p.fFuncs.xs j).fBlocks.xs).length) p.fFuncs.xs.length mv s.V, own 29 X1.fVals.A X1.fVals.xs.length X1.fVals.c X1.fVals.xs, bagG EB 3 (fun j => (madeAll (nth p.fFuncs.xs j).fBlocks.xs).length) p.fFuncs.xs.length mv1 s1.V, own 29 X2.fVals.A X2.fVals.xs.length X2.fVals.c X2.fVals.xs, own 4 X2.fArrays.A X2.fArrays.xs.length X2.fArrays.c X2.fArrays.xs, own 4 X2.fRets.A X2.fRets.xs.length X2.fRets.c X2.fRets.xs, bagG EB 3 (fun j => (madeAll (nth p.fFuncs.xs j).fBlocks.xs).length) p.fFuncs.xs.length mv2 s2.V]) (fun i => i ≤ p.fFuncs.xs.length) (fun i => p.fFuncs.xs.length - i) 0 (by repeat (first | exact trivial | refine ⟨rfl, ?_⟩)) (Nat.zero_le _) (PSub.take [17, 10, 5, 0, 8, 8, 8, 9, 4, 6, 0, 0, 0, 0] (by kernel_rfl)) ?_
    have hE0 : ∀ f v, f < p.fFuncs.xs.length → (s.V f v).getD 0 = lev ((s1.V f v).getD false) ((s2.V f v).getD false) := fun f v _ => by
      have h := lev_of (hrng (0, f, v))
      rw [← hlo, ← hhi] at h
      exact h.symm
    have hE2 : ∀ f, nth l.fRets.xs f = lev false (nth X2.fRets.xs f) := fun f => by
      have h := lev_ne (hrng (2, f, 0)) (hne _ (by intro e; cases e))
      rw [← hhi] at h
      rw [hlr, h2r]
      exact h.symm
    have hE1 : ∀ f, nth l.fArrays.xs f = lev false (nth X2.fArrays.xs f) := fun f => by
      have h := lev_ne (hrng (1, f, 0)) (hne _ (by intro e; cases e))
      rw [← hhi] at h
      rw [hla, h2a]
      exact h.symm
    clear hlo hhi
    rintro g1 i hi
    (repeat' (first | refine s_nil ?_ | (refine k_C ?_; first | refine s_seq ?_ | refine s_region ?_) | (refine k_E ?_; refine e_seq ?_) | (refine k_bin ?_; refine s_lss rfl rfl ?_)))
    (first | (refine k_C ?_; (refine s_ifd rfl ?_ ?_ <;> intro hc <;> try (exfalso; omega))))
    rotate_left
    · have hiE : i = p.fFuncs.xs.length := by omega
      subst hiE
      (repeat' (first | refine s_move ?_ | refine s_nil ?_ | (refine k_C ?_; first | refine s_seq ?_ | refine s_region ?_ | refine s_block ?_ | refine s_exit ?_) | (refine k_E ?_; first | refine e_seq ?_ | refine e_seq_exit ?_ | refine e_bk_exit ?_ | refine e_lp_exit ?_) | (refine k_load ?_; refine s_ldB rfl rfl ?_) | (refine k_fld ?_; refine s_fldB rfl ?_) | (refine k_call ?_; refine s_len rfl ?_)))
      refine s_loop (σ := Nat) (fun i => [(2, .pointer (some ⟨b2, 0, none⟩)), (7, .pointer (some ⟨b7, 0, none⟩)), (9, .pointer (some ⟨b9, 0, none⟩)), (10, .pointer (some ⟨b10, 0, none⟩)), (11, .func (.func 12) #[] #[]), (205, .slice p.fArrays.A p.fArrays.xs.length p.fArrays.c), (206, .int .i64 p.fArrays.xs.length), (207, .int .i64 (i : Nat))]) (fun _ => [var 25 b2 p, var 33 b7 l, var 40 b9 X1, var 40 b10 X2, own 56 l.fVals.A l.fVals.xs.length l.fVals.c l.fVals.xs, own 42 l.fArrays.A l.fArrays.xs.length l.fArrays.c l.fArrays.xs, own 42 l.fRets.A l.fRets.xs.length l.fRets.c l.fRets.xs, bagG EL 3 (fun j => (madeAll (nth p.fFuncs.xs j).fBlocks.xs).length) p.fFuncs.xs.length mv s.V, own 29 X1.fVals.A X1.fVals.xs.length X1.fVals.c X1.fVals.xs, bagG EB 3 (fun j => (madeAll (nth p.fFuncs.xs j).fBlocks.xs).length) p.fFuncs.xs.length mv1 s1.V, own 29 X2.fVals.A X2.fVals.xs.length X2.fVals.c X2.fVals.xs, own 4 X2.fArrays.A X2.fArrays.xs.length X2.fArrays.c X2.fArrays.xs, own 4 X2.fRets.A X2.fRets.xs.length X2.fRets.c X2.fRets.xs, bagG EB 3 (fun j => (madeAll (nth p.fFuncs.xs j).fBlocks.xs).length) p.fFuncs.xs.length mv2 s2.V]) (fun i => i ≤ p.fArrays.xs.length) (fun i => p.fArrays.xs.length - i) 0 (by repeat (first | exact trivial | refine ⟨rfl, ?_⟩)) (Nat.zero_le _) PSub.refl ?_
      rintro g2 i hi
      (repeat' (first | refine s_nil ?_ | (refine k_C ?_; first | refine s_seq ?_ | refine s_region ?_) | (refine k_E ?_; refine e_seq ?_) | (refine k_bin ?_; refine s_lss rfl rfl ?_)))
      (first | (refine k_C ?_; (refine s_ifd rfl ?_ ?_ <;> intro hc <;> try (exfalso; omega))))
      · have hil : i < p.fArrays.xs.length := by omega
        have hEi := hE1 i
        (repeat' (first | refine s_move ?_ | refine s_assign ?_ | refine s_nil ?_ | (refine k_C ?_; first | refine s_seq ?_ | refine s_region ?_ | refine s_skip ?_ | refine s_block ?_) | (refine k_E ?_; refine e_seq ?_)))
        refine s_draw _ 12 foI (by kernel_rfl) PSub.refl fun hD => ?_
        refine d_rd (fuel := 2) #[true, true, true, true, true, true, true, true, true, true, true, false, false] [0, 1, 2, 3, 4, 5, 6, 7, 8, 9, 10] ?F44 hD (by kernel_rfl) ?hr44 ?hn44
        case hr44 =>
          change sO _ _ _ _ _ _ (_ :: _ :: _ :: _ :: _ :: _ :: _ :: _ :: _ :: _ :: _ :: []) _ _ _
          (repeat' (first | refine s_move ?_ | refine s_nil ?_ | (refine k_load ?_; first | refine s_ldB rfl rfl ?_ | refine s_ld rfl om rfl ?_) | (refine k_fld ?_; refine s_fldB rfl ?_) | (refine k_idx ?_; refine s_idx rfl rfl om ?_)))
          exact e_F
        refine d_all (fuel := 1) [11] (by kernel_rfl) ⟨?_, trivial⟩
        change sO _ _ _ _ _ _ (_ :: []) _ _ _
        refine s_callV0 (captured := []) rfl (level_spec _ _) rfl (fun _ _ => trivial) ?_
        rintro r L' ⟨rfl, rfl⟩
        (repeat' (first | refine s_nil ?_))
        refine e_sd PSub.refl ?_
        refine d_end hD (by kernel_rfl) rfl ?_
        change sO _ _ _ _ _ _ (_ :: []) _ _ _
        (repeat' (first | refine s_move ?_ | refine s_nil ?_ | (refine k_C ?_; first | refine s_region ?_ | refine s_skip ?_ | (refine s_ifn rfl ?_ ?_ <;> intro hc <;> try (exfalso; omega))) | (refine k_E ?_; first | refine e_seq ?_ | refine e_bk ?_) | (refine k_bin ?_; first | refine s_add1 rfl rfl om ?_ | refine s_neq rfl rfl ?_)))
        exact e_lp (i + 1) (by repeat (first | exact trivial | refine ⟨rfl, ?_⟩)) (by show i + 1 ≤ _; omega) (by show _ - _ < _ - _; omega) PSub.refl
      (repeat' (first | refine s_assign ?_ | refine s_nil ?_ | (refine k_C ?_; first | refine s_seq ?_ | refine s_region ?_ | refine s_exit ?_ | refine s_ret ?_) | (refine k_E ?_; first | refine e_seq ?_ | refine e_seq_exit ?_ | refine e_bk_exit ?_ | refine e_lp_exit ?_)))
      exact e_done rfl rfl [] (PSub.take [] rfl) ⟨rfl, rfl⟩
    have hil : i < p.fFuncs.xs.length := by omega
    have hfb := (hp.k i hil).b
    (repeat' (first | refine s_move ?_ | refine s_assign ?_ | refine s_nil ?_ | (refine k_C ?_; first | refine s_seq ?_ | refine s_region ?_ | refine s_skip ?_ | refine s_block ?_) | (refine k_E ?_; refine e_seq ?_) | (refine k_load ?_; first | refine s_ldB rfl rfl ?_ | refine s_ldSA rfl rfl om rfl ?_) | (refine k_fld ?_; refine s_fldB rfl ?_) | (refine k_idx ?_; refine s_idxS rfl rfl om ?_) | (refine k_store ?_; refine s_stW _ rfl rfl ?_) | (refine k_call ?_; refine s_len rfl ?_) | (refine s_alloc ?_; intro b)))
    obtain ⟨b13, rfl⟩ : ∃ q, q = b := ⟨_, rfl⟩
    refine s_loop (σ := Nat) (fun j => [(2, .pointer (some ⟨b2, 0, none⟩)), (7, .pointer (some ⟨b7, 0, none⟩)), (9, .pointer (some ⟨b9, 0, none⟩)), (10, .pointer (some ⟨b10, 0, none⟩)), (11, .func (.func 12) #[] #[]), (103, .slice p.fFuncs.A p.fFuncs.xs.length p.fFuncs.c), (104, .int .i64 p.fFuncs.xs.length), (105, .int .i64 (i : Nat)), (12, .int .i64 (i : Nat)), (13, .pointer (some ⟨b13, 0, none⟩)), (111, .slice (nth p.fFuncs.xs i).fBlocks.A (nth p.fFuncs.xs i).fBlocks.xs.length (nth p.fFuncs.xs i).fBlocks.c), (112, .int .i64 (nth p.fFuncs.xs i).fBlocks.xs.length), (113, .int .i64 (j : Nat))]) (fun _ => [var 46 b13 (nth p.fFuncs.xs i), var 25 b2 p, var 33 b7 l, var 40 b9 X1, var 40 b10 X2, own 56 l.fVals.A l.fVals.xs.length l.fVals.c l.fVals.xs, own 42 l.fArrays.A l.fArrays.xs.length l.fArrays.c l.fArrays.xs, own 42 l.fRets.A l.fRets.xs.length l.fRets.c l.fRets.xs, bagG EL 3 (fun j => (madeAll (nth p.fFuncs.xs j).fBlocks.xs).length) p.fFuncs.xs.length mv s.V, own 29 X1.fVals.A X1.fVals.xs.length X1.fVals.c X1.fVals.xs, bagG EB 3 (fun j => (madeAll (nth p.fFuncs.xs j).fBlocks.xs).length) p.fFuncs.xs.length mv1 s1.V, own 29 X2.fVals.A X2.fVals.xs.length X2.fVals.c X2.fVals.xs, own 4 X2.fArrays.A X2.fArrays.xs.length X2.fArrays.c X2.fArrays.xs, own 4 X2.fRets.A X2.fRets.xs.length X2.fRets.c X2.fRets.xs, bagG EB 3 (fun j => (madeAll (nth p.fFuncs.xs j).fBlocks.xs).length) p.fFuncs.xs.length mv2 s2.V]) (fun j => j ≤ (nth p.fFuncs.xs i).fBlocks.xs.length) (fun j => (nth p.fFuncs.xs i).fBlocks.xs.length - j) 0 (by repeat (first | exact trivial | refine ⟨rfl, ?_⟩)) (Nat.zero_le _) PSub.refl ?_
    rintro g2 j hj
    (repeat' (first | refine s_nil ?_ | (refine k_C ?_; first | refine s_seq ?_ | refine s_region ?_) | (refine k_E ?_; refine e_seq ?_) | (refine k_bin ?_; refine s_lss rfl rfl ?_)))
    (first | (refine k_C ?_; (refine s_ifd rfl ?_ ?_ <;> intro hc <;> try (exfalso; omega))))
    rotate_left
    · have hjE : j = (nth p.fFuncs.xs i).fBlocks.xs.length := by omega
      subst hjE
      have hEi := hE2 i
      (repeat' (first | (refine k_C ?_; first | refine s_seq ?_ | refine s_exit ?_) | (refine k_E ?_; first | refine e_seq ?_ | refine e_seq_exit ?_ | refine e_bk_exit ?_ | refine e_lp_exit ?_)))
      refine s_draw _ 12 foI (by kernel_rfl) PSub.refl fun hD => ?_
      refine d_rd (fuel := 2) #[true, true, true, true, true, true, true, true, true, true, true, false, false] [0, 1, 2, 3, 4, 5, 6, 7, 8, 9, 10] ?F38 hD (by kernel_rfl) ?hr38 ?hn38
      case hr38 =>
        change sO _ _ _ _ _ _ (_ :: _ :: _ :: _ :: _ :: _ :: _ :: _ :: _ :: _ :: _ :: []) _ _ _
        (repeat' (first | refine s_move ?_ | refine s_nil ?_ | (refine k_load ?_; first | refine s_ldB rfl rfl ?_ | refine s_ld rfl om rfl ?_) | (refine k_fld ?_; refine s_fldB rfl ?_) | (refine k_idx ?_; refine s_idx rfl rfl om ?_)))
        exact e_F
      refine d_all (fuel := 1) [11] (by kernel_rfl) ⟨?_, trivial⟩
      change sO _ _ _ _ _ _ (_ :: []) _ _ _
      refine s_callV0 (captured := []) rfl (level_spec _ _) rfl (fun _ _ => trivial) ?_
      rintro r L' ⟨rfl, rfl⟩
      (repeat' (first | refine s_nil ?_))
      refine e_sd PSub.refl ?_
      refine d_end hD (by kernel_rfl) rfl ?_
      change sO _ _ _ _ _ _ (_ :: []) _ _ _
      (repeat' (first | refine s_move ?_ | refine s_nil ?_ | (refine k_C ?_; first | refine s_region ?_ | refine s_skip ?_ | (refine s_ifn rfl ?_ ?_ <;> intro hc <;> try (exfalso; omega))) | (refine k_E ?_; first | refine e_seq ?_ | refine e_bk ?_) | (refine k_bin ?_; first | refine s_add1 rfl rfl om ?_ | refine s_neq rfl rfl ?_)))
      exact e_lp (i + 1) (by repeat (first | exact trivial | refine ⟨rfl, ?_⟩)) (by show i + 1 ≤ _; omega) (by show _ - _ < _ - _; omega) (PSub.tl (L := [var 25 b2 p, var 33 b7 l, var 40 b9 X1, var 40 b10 X2, own 56 l.fVals.A l.fVals.xs.length l.fVals.c l.fVals.xs, own 42 l.fArrays.A l.fArrays.xs.length l.fArrays.c l.fArrays.xs, own 42 l.fRets.A l.fRets.xs.length l.fRets.c l.fRets.xs, bagG EL 3 (fun j => (madeAll (nth p.fFuncs.xs j).fBlocks.xs).length) p.fFuncs.xs.length mv s.V, own 29 X1.fVals.A X1.fVals.xs.length X1.fVals.c X1.fVals.xs, bagG EB 3 (fun j => (madeAll (nth p.fFuncs.xs j).fBlocks.xs).length) p.fFuncs.xs.length mv1 s1.V, own 29 X2.fVals.A X2.fVals.xs.length X2.fVals.c X2.fVals.xs, own 4 X2.fArrays.A X2.fArrays.xs.length X2.fArrays.c X2.fArrays.xs, own 4 X2.fRets.A X2.fRets.xs.length X2.fRets.c X2.fRets.xs, bagG EB 3 (fun j => (madeAll (nth p.fFuncs.xs j).fBlocks.xs).length) p.fFuncs.xs.length mv2 s2.V]))
    have hjl : j < (nth p.fFuncs.xs i).fBlocks.xs.length := by omega
    have hBk := (hp.k i hil).k j hjl
    have hinl := hBk.i
    have hpll := hBk.p
    (repeat' (first | refine s_move ?_ | refine s_nil ?_ | (refine k_C ?_; first | refine s_seq ?_ | refine s_region ?_ | refine s_skip ?_ | refine s_block ?_) | (refine k_E ?_; refine e_seq ?_) | (refine k_load ?_; first | refine s_ldB rfl rfl ?_ | refine s_ldSA rfl rfl om rfl ?_) | (refine k_fld ?_; refine s_fldB rfl ?_) | (refine k_idx ?_; refine s_idxS rfl rfl om ?_) | (refine k_store ?_; refine s_stW _ rfl rfl ?_) | (refine k_call ?_; refine s_len rfl ?_) | (refine s_alloc ?_; intro b)))
    obtain ⟨b15, rfl⟩ : ∃ q, q = b := ⟨_, rfl⟩
    refine s_loop (σ := Nat) (fun a => [(2, .pointer (some ⟨b2, 0, none⟩)), (7, .pointer (some ⟨b7, 0, none⟩)), (9, .pointer (some ⟨b9, 0, none⟩)), (10, .pointer (some ⟨b10, 0, none⟩)), (11, .func (.func 12) #[] #[]), (103, .slice p.fFuncs.A p.fFuncs.xs.length p.fFuncs.c), (104, .int .i64 p.fFuncs.xs.length), (105, .int .i64 (i : Nat)), (12, .int .i64 (i : Nat)), (13, .pointer (some ⟨b13, 0, none⟩)), (111, .slice (nth p.fFuncs.xs i).fBlocks.A (nth p.fFuncs.xs i).fBlocks.xs.length (nth p.fFuncs.xs i).fBlocks.c), (112, .int .i64 (nth p.fFuncs.xs i).fBlocks.xs.length), (113, .int .i64 (j : Nat)), (15, .pointer (some ⟨b15, 0, none⟩)), (118, .slice (nth (nth p.fFuncs.xs i).fBlocks.xs j).fParams.A (nth (nth p.fFuncs.xs i).fBlocks.xs j).fParams.xs.length (nth (nth p.fFuncs.xs i).fBlocks.xs j).fParams.c), (119, .int .i64 (nth (nth p.fFuncs.xs i).fBlocks.xs j).fParams.xs.length), (120, .int .i64 (a : Nat))]) (fun _ => [var 55 b15 (nth (nth p.fFuncs.xs i).fBlocks.xs j), var 46 b13 (nth p.fFuncs.xs i), var 25 b2 p, var 33 b7 l, var 40 b9 X1, var 40 b10 X2, own 56 l.fVals.A l.fVals.xs.length l.fVals.c l.fVals.xs, own 42 l.fArrays.A l.fArrays.xs.length l.fArrays.c l.fArrays.xs, own 42 l.fRets.A l.fRets.xs.length l.fRets.c l.fRets.xs, bagG EL 3 (fun j => (madeAll (nth p.fFuncs.xs j).fBlocks.xs).length) p.fFuncs.xs.length mv s.V, own 29 X1.fVals.A X1.fVals.xs.length X1.fVals.c X1.fVals.xs, bagG EB 3 (fun j => (madeAll (nth p.fFuncs.xs j).fBlocks.xs).length) p.fFuncs.xs.length mv1 s1.V, own 29 X2.fVals.A X2.fVals.xs.length X2.fVals.c X2.fVals.xs, own 4 X2.fArrays.A X2.fArrays.xs.length X2.fArrays.c X2.fArrays.xs, own 4 X2.fRets.A X2.fRets.xs.length X2.fRets.c X2.fRets.xs, bagG EB 3 (fun j => (madeAll (nth p.fFuncs.xs j).fBlocks.xs).length) p.fFuncs.xs.length mv2 s2.V]) (fun a => a ≤ (nth (nth p.fFuncs.xs i).fBlocks.xs j).fParams.xs.length) (fun a => (nth (nth p.fFuncs.xs i).fBlocks.xs j).fParams.xs.length - a) 0 (by repeat (first | exact trivial | refine ⟨rfl, ?_⟩)) (Nat.zero_le _) PSub.refl ?_
    rintro g3 a ha
    (repeat' (first | refine s_nil ?_ | (refine k_C ?_; first | refine s_seq ?_ | refine s_region ?_) | (refine k_E ?_; refine e_seq ?_) | (refine k_bin ?_; refine s_lss rfl rfl ?_)))
    (first | (refine k_C ?_; (refine s_ifd rfl ?_ ?_ <;> intro hc <;> try (exfalso; omega))))
    · have hal : a < (nth (nth p.fFuncs.xs i).fBlocks.xs j).fParams.xs.length := by omega
      have hEi := hE0 i (nth (nth (nth p.fFuncs.xs i).fBlocks.xs j).fParams.xs a) hil
      (repeat' (first | refine s_assign ?_ | refine s_nil ?_ | (refine k_C ?_; first | refine s_seq ?_ | refine s_region ?_ | refine s_skip ?_ | refine s_block ?_) | (refine k_E ?_; refine e_seq ?_) | (refine k_load ?_; refine s_ldS rfl rfl om rfl ?_) | (refine k_idx ?_; refine s_idxS rfl rfl om ?_)))
      refine s_draw _ 23 foI (by kernel_rfl) PSub.refl fun hD => ?_
      refine d_rd (fuel := 2) #[true, true, true, true, true, true, true, true, true, true, true, true, true, true, true, true, true, true, true, true, true, true, false, false] [0, 1, 2, 3, 4, 5, 6, 7, 8, 9, 10, 11, 12, 13, 14, 15, 16, 17, 18, 19, 20, 21] ?F28 hD (by kernel_rfl) ?hr28 ?hn28
      case hr28 =>
        change sO _ _ _ _ _ _ (_ :: _ :: _ :: _ :: _ :: _ :: _ :: _ :: _ :: _ :: _ :: _ :: _ :: _ :: _ :: _ :: _ :: _ :: _ :: _ :: _ :: _ :: []) _ _ _
        (repeat' (first | refine s_move ?_ | (refine k_load ?_; first | refine s_ldB rfl rfl ?_ | refine s_ld rfl om rfl ?_) | (refine k_fld ?_; refine s_fldB rfl ?_) | (refine k_idx ?_; refine s_idx rfl rfl om ?_)))
        refine s_lookG (k := p.fFuncs.xs.length) 9 rfl hil (hvb i hil) rfl rfl ?_
        rw [el_z]
        (repeat' (first | refine s_move ?_ | (refine k_load ?_; first | refine s_ldB rfl rfl ?_ | refine s_ld rfl om rfl ?_) | (refine k_fld ?_; refine s_fldB rfl ?_) | (refine k_idx ?_; refine s_idx rfl rfl om ?_)))
        refine s_lookG (k := p.fFuncs.xs.length) 11 rfl hil (h1v i hil) rfl rfl ?_
        rw [eb_z]
        (repeat' (first | refine s_move ?_ | (refine k_load ?_; first | refine s_ldB rfl rfl ?_ | refine s_ld rfl om rfl ?_) | (refine k_fld ?_; refine s_fldB rfl ?_) | (refine k_idx ?_; refine s_idx rfl rfl om ?_)))
        refine s_lookG (k := p.fFuncs.xs.length) 15 rfl hil (h2v i hil) rfl rfl ?_
        rw [eb_z]
        (repeat' (first | refine s_nil ?_))
        exact e_F
      refine d_all (fuel := 1) [22] (by kernel_rfl) ⟨?_, trivial⟩
      change sO _ _ _ _ _ _ (_ :: []) _ _ _
      refine s_callV0 (captured := []) rfl (level_spec _ _) rfl (fun _ _ => trivial) ?_
      rintro r L' ⟨rfl, rfl⟩
      (repeat' (first | refine s_nil ?_))
      refine e_sd PSub.refl ?_
      refine d_end hD (by kernel_rfl) rfl ?_
      change sO _ _ _ _ _ _ (_ :: []) _ _ _
      (repeat' (first | refine s_move ?_ | refine s_nil ?_ | (refine k_C ?_; first | refine s_region ?_ | refine s_skip ?_ | (refine s_ifn rfl ?_ ?_ <;> intro hc <;> try (exfalso; omega))) | (refine k_E ?_; first | refine e_seq ?_ | refine e_bk ?_) | (refine k_bin ?_; first | refine s_add1 rfl rfl om ?_ | refine s_neq rfl rfl ?_)))
      exact e_lp (a + 1) (by repeat (first | exact trivial | refine ⟨rfl, ?_⟩)) (by show a + 1 ≤ _; omega) (by show _ - _ < _ - _; omega) PSub.refl
    have haE : a = (nth (nth p.fFuncs.xs i).fBlocks.xs j).fParams.xs.length := by omega
    subst haE
    (repeat' (first | refine s_move ?_ | refine s_nil ?_ | (refine k_C ?_; first | refine s_seq ?_ | refine s_region ?_ | refine s_block ?_ | refine s_exit ?_) | (refine k_E ?_; first | refine e_seq ?_ | refine e_seq_exit ?_ | refine e_bk_exit ?_ | refine e_lp_exit ?_) | (refine k_load ?_; refine s_ldB rfl rfl ?_) | (refine k_fld ?_; refine s_fldB rfl ?_) | (refine k_call ?_; refine s_len rfl ?_)))
    refine s_loop (σ := Nat) (fun m => [(2, .pointer (some ⟨b2, 0, none⟩)), (7, .pointer (some ⟨b7, 0, none⟩)), (9, .pointer (some ⟨b9, 0, none⟩)), (10, .pointer (some ⟨b10, 0, none⟩)), (11, .func (.func 12) #[] #[]), (103, .slice p.fFuncs.A p.fFuncs.xs.length p.fFuncs.c), (104, .int .i64 p.fFuncs.xs.length), (105, .int .i64 (i : Nat)), (12, .int .i64 (i : Nat)), (13, .pointer (some ⟨b13, 0, none⟩)), (111, .slice (nth p.fFuncs.xs i).fBlocks.A (nth p.fFuncs.xs i).fBlocks.xs.length (nth p.fFuncs.xs i).fBlocks.c), (112, .int .i64 (nth p.fFuncs.xs i).fBlocks.xs.length), (113, .int .i64 (j : Nat)), (15, .pointer (some ⟨b15, 0, none⟩)), (150, .slice (nth (nth p.fFuncs.xs i).fBlocks.xs j).fIns.A (nth (nth p.fFuncs.xs i).fBlocks.xs j).fIns.xs.length (nth (nth p.fFuncs.xs i).fBlocks.xs j).fIns.c), (151, .int .i64 (nth (nth p.fFuncs.xs i).fBlocks.xs j).fIns.xs.length), (152, .int .i64 (m : Nat))]) (fun _ => [var 55 b15 (nth (nth p.fFuncs.xs i).fBlocks.xs j), var 46 b13 (nth p.fFuncs.xs i), var 25 b2 p, var 33 b7 l, var 40 b9 X1, var 40 b10 X2, own 56 l.fVals.A l.fVals.xs.length l.fVals.c l.fVals.xs, own 42 l.fArrays.A l.fArrays.xs.length l.fArrays.c l.fArrays.xs, own 42 l.fRets.A l.fRets.xs.length l.fRets.c l.fRets.xs, bagG EL 3 (fun j => (madeAll (nth p.fFuncs.xs j).fBlocks.xs).length) p.fFuncs.xs.length mv s.V, own 29 X1.fVals.A X1.fVals.xs.length X1.fVals.c X1.fVals.xs, bagG EB 3 (fun j => (madeAll (nth p.fFuncs.xs j).fBlocks.xs).length) p.fFuncs.xs.length mv1 s1.V, own 29 X2.fVals.A X2.fVals.xs.length X2.fVals.c X2.fVals.xs, own 4 X2.fArrays.A X2.fArrays.xs.length X2.fArrays.c X2.fArrays.xs, own 4 X2.fRets.A X2.fRets.xs.length X2.fRets.c X2.fRets.xs, bagG EB 3 (fun j => (madeAll (nth p.fFuncs.xs j).fBlocks.xs).length) p.fFuncs.xs.length mv2 s2.V]) (fun m => m ≤ (nth (nth p.fFuncs.xs i).fBlocks.xs j).fIns.xs.length) (fun m => (nth (nth p.fFuncs.xs i).fBlocks.xs j).fIns.xs.length - m) 0 (by repeat (first | exact trivial | refine ⟨rfl, ?_⟩)) (Nat.zero_le _) PSub.refl ?_
    rintro g4 m hm
    (repeat' (first | refine s_nil ?_ | (refine k_C ?_; first | refine s_seq ?_ | refine s_region ?_) | (refine k_E ?_; refine e_seq ?_) | (refine k_bin ?_; refine s_lss rfl rfl ?_)))
    (first | (refine k_C ?_; (refine s_ifd rfl ?_ ?_ <;> intro hc <;> try (exfalso; omega))))
    rotate_left
    · have hmE : m = (nth (nth p.fFuncs.xs i).fBlocks.xs j).fIns.xs.length := by omega
      subst hmE
      (repeat' (first | refine s_move ?_ | refine s_nil ?_ | (refine k_C ?_; first | refine s_region ?_ | refine s_exit ?_) | (refine k_E ?_; first | refine e_seq ?_ | refine e_seq_exit ?_ | refine e_bk_exit ?_ | refine e_bk ?_ | refine e_lp_exit ?_) | (refine k_bin ?_; refine s_add1 rfl rfl om ?_)))
      exact e_lp (j + 1) (by repeat (first | exact trivial | refine ⟨rfl, ?_⟩)) (by show j + 1 ≤ _; omega) (by show _ - _ < _ - _; omega) PSub.tl
    have hml : m < (nth (nth p.fFuncs.xs i).fBlocks.xs j).fIns.xs.length := by omega
    have hEi := hE0 i (nth (nth (nth p.fFuncs.xs i).fBlocks.xs j).fIns.xs m).fDst hil
    by_cases hd0 : (nth (nth (nth p.fFuncs.xs i).fBlocks.xs j).fIns.xs m).fDst = 0
    · (repeat' (first | refine s_nil ?_ | (refine k_C ?_; first | refine s_seq ?_ | refine s_region ?_ | refine s_skip ?_ | refine s_block ?_) | (refine k_E ?_; refine e_seq ?_) | (refine k_load ?_; refine s_ldSA rfl rfl om rfl ?_) | (refine k_idx ?_; refine s_idxS rfl rfl om ?_) | (refine k_store ?_; refine s_stW _ rfl rfl ?_) | (refine s_alloc ?_; intro b)))
      refine s_draw _ 30 foI (by kernel_rfl) PSub.refl fun hD => ?_
      refine d_rd (fuel := 3) #[true, true, true, true, true, true, true, true, true, true, true, true, true, true, true, true, true, true, true, true, true, true, true, true, true, true, true, true, true, false, false, false] [0, 1, 2, 3, 4, 5, 6, 7, 8, 9, 10, 11, 12, 13, 14, 15, 16, 17, 18, 19, 20, 21, 22, 23, 24, 25, 26, 27, 28] ?F34a hD (by kernel_rfl) ?hr34a ?hn34a
      case hr34a =>
        change sO _ _ _ _ _ _ (_ :: _ :: _ :: _ :: _ :: _ :: _ :: _ :: _ :: _ :: _ :: _ :: _ :: _ :: _ :: _ :: _ :: _ :: _ :: _ :: _ :: _ :: _ :: _ :: _ :: _ :: _ :: _ :: _ :: []) _ _ _
        (repeat' (first | refine s_move ?_ | refine s_nil ?_ | (refine k_load ?_; refine s_ldB rfl rfl ?_) | (refine k_bin ?_; refine s_neq rfl rfl ?_) | (refine k_fld ?_; refine s_fldB rfl ?_) | (refine k_guard ?_; first | refine s_off rfl rfl rfl rfl ?_ | (refine s_casesn rfl rfl ?_ ?_ <;> intro hc <;> try (exfalso; omega)))))
        exact e_F
      refine d_all (fuel := 2) [29] (by kernel_rfl) ⟨?_, trivial⟩
      change sO _ _ _ _ _ _ (_ :: []) _ _ _
      (repeat' (first | refine s_nil ?_ | (refine k_guard ?_; refine s_off rfl rfl rfl rfl ?_)))
      refine e_sd PSub.refl ?_
      refine d_end hD (by kernel_rfl) rfl ?_
      change sO _ _ _ _ _ _ (_ :: _ :: []) _ _ _
      (repeat' (first | refine s_move ?_ | refine s_nil ?_ | (refine k_C ?_; first | refine s_region ?_ | refine s_skip ?_ | refine s_iff rfl ?_) | (refine k_E ?_; first | refine e_seq ?_ | refine e_bk ?_) | (refine k_bin ?_; refine s_add1 rfl rfl om ?_) | (refine k_guard ?_; refine s_off rfl rfl rfl rfl ?_) | refine s_pick rfl ?_))
      exact e_lp (m + 1) (by repeat (first | exact trivial | refine ⟨rfl, ?_⟩)) (by show m + 1 ≤ _; omega) (by show _ - _ < _ - _; omega) PSub.tl
    · (repeat' (first | refine s_nil ?_ | (refine k_C ?_; first | refine s_seq ?_ | refine s_region ?_ | refine s_skip ?_ | refine s_block ?_) | (refine k_E ?_; refine e_seq ?_) | (refine k_load ?_; refine s_ldSA rfl rfl om rfl ?_) | (refine k_idx ?_; refine s_idxS rfl rfl om ?_) | (refine k_store ?_; refine s_stW _ rfl rfl ?_) | (refine s_alloc ?_; intro b)))
      refine s_draw _ 30 foI (by kernel_rfl) PSub.refl fun hD => ?_
      refine d_rd (fuel := 3) #[true, true, true, true, true, true, true, true, true, true, true, true, true, true, true, true, true, true, true, true, true, true, true, true, true, true, true, true, true, false, false, false] [0, 1, 2, 3, 4, 5, 6, 7, 8, 9, 10, 11, 12, 13, 14, 15, 16, 17, 18, 19, 20, 21, 22, 23, 24, 25, 26, 27, 28] ?F34b hD (by kernel_rfl) ?hr34b ?hn34b
      case hr34b =>
        change sO _ _ _ _ _ _ (_ :: _ :: _ :: _ :: _ :: _ :: _ :: _ :: _ :: _ :: _ :: _ :: _ :: _ :: _ :: _ :: _ :: _ :: _ :: _ :: _ :: _ :: _ :: _ :: _ :: _ :: _ :: _ :: _ :: []) _ _ _
        (repeat' (first | refine s_move ?_ | (refine k_load ?_; first | refine s_ldB rfl rfl ?_ | refine s_ld rfl om rfl ?_) | (refine k_bin ?_; refine s_neq rfl rfl ?_) | (refine k_fld ?_; refine s_fldB rfl ?_) | (refine k_idx ?_; refine s_idx rfl rfl om ?_) | (refine k_guard ?_; first | refine s_on rfl rfl ?_ | (refine s_casesn rfl rfl ?_ ?_ <;> intro hc <;> try (exfalso; omega)))))
        refine s_lookG (k := p.fFuncs.xs.length) 10 rfl hil (hvb i hil) rfl rfl ?_
        rw [el_z]
        (repeat' (first | refine s_move ?_ | (refine k_load ?_; first | refine s_ldB rfl rfl ?_ | refine s_ld rfl om rfl ?_) | (refine k_fld ?_; refine s_fldB rfl ?_) | (refine k_idx ?_; refine s_idx rfl rfl om ?_) | (refine k_guard ?_; refine s_on rfl rfl ?_)))
        refine s_lookG (k := p.fFuncs.xs.length) 12 rfl hil (h1v i hil) rfl rfl ?_
        rw [eb_z]
        (repeat' (first | refine s_move ?_ | (refine k_load ?_; first | refine s_ldB rfl rfl ?_ | refine s_ld rfl om rfl ?_) | (refine k_fld ?_; refine s_fldB rfl ?_) | (refine k_idx ?_; refine s_idx rfl rfl om ?_) | (refine k_guard ?_; refine s_on rfl rfl ?_)))
        refine s_lookG (k := p.fFuncs.xs.length) 16 rfl hil (h2v i hil) rfl rfl ?_
        rw [eb_z]
        (repeat' (first | refine s_nil ?_))
        exact e_F
      refine d_all (fuel := 2) [29] (by kernel_rfl) ⟨?_, trivial⟩
      change sO _ _ _ _ _ _ (_ :: []) _ _ _
      (repeat' (first | (refine k_guard ?_; refine s_on rfl rfl ?_)))
      refine s_callV0 (captured := []) rfl (level_spec _ _) rfl (fun _ _ => trivial) ?_
      rintro r L' ⟨rfl, rfl⟩
      (repeat' (first | refine s_nil ?_))
      refine e_sd PSub.refl ?_
      refine d_end hD (by kernel_rfl) rfl ?_
      change sO _ _ _ _ _ _ (_ :: _ :: []) _ _ _
      (repeat' (first | refine s_move ?_ | refine s_nil ?_ | (refine k_C ?_; first | refine s_region ?_ | refine s_skip ?_ | (refine s_ifn rfl ?_ ?_ <;> intro hc <;> try (exfalso; omega))) | (refine k_E ?_; first | refine e_seq ?_ | refine e_bk ?_) | (refine k_bin ?_; first | refine s_add1 rfl rfl om ?_ | refine s_neq rfl rfl ?_) | (refine k_guard ?_; refine s_on rfl rfl ?_) | refine s_pick rfl ?_))
      exact e_lp (m + 1) (by repeat (first | exact trivial | refine ⟨rfl, ?_⟩)) (by show m + 1 ≤ _; omega) (by show _ - _ < _ - _; omega) PSub.tl
end Go.Proofs.Ytomhieglgfjloaa
