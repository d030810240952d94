/- Layer 15: pick, walked. -/
import Derived.Test.YtfplmdjlgjgbgaaV4
import Derived.Test.YtfplmdjlgjgbgaaA17
namespace Go.Proofs.Ytfplmdjlgjgbgaa
set_option linter.unusedVariables false
set_option linter.unusedSimpArgs false
open Go Go.RowKit

noncomputable abbrev EI : EK Try.prog 3 Int := ekInt U_3
instance : ArT Try.prog 91 4 64 := ⟨U_91⟩
noncomputable instance : Elt Try.prog 91 (Vn (63 + 1) Bool) (by infer_instance) 64 64 := ⟨⟨_, TI_91, rfl⟩, rfl⟩
/-- A register that others have. -/
def Taken (R : Int → Option Int) (p : Int → Bool) (v : Int) (c : Nat) : Prop := ∃ o, p o = true ∧ o ≠ v ∧ R o = some (c : Int)
/-- .. gone over so far. -/
def Gone (R : Int → Option Int) (p todo : Int → Bool) (v : Int) (c : Nat) : Prop := ∃ o, p o = true ∧ todo o = false ∧ o ≠ v ∧ R o = some (c : Int)
theorem Gone.skip {R : Int → Option Int} {p todo : Int → Bool} {v k : Int} {c : Nat} (h : k = v ∨ R k ≠ some (c : Int)) : Gone R p todo v c ↔ Gone R p (fun j => todo j && j != k) v c := by
  constructor
  · rintro ⟨o, h1, h2, h3, h4⟩
    exact ⟨o, h1, by simp [h2], h3, h4⟩
  · rintro ⟨o, h1, h2, h3, h4⟩
    by_cases e : o = k
    · subst e
      rcases h with h | h
      · exact absurd h h3
      · exact absurd h4 h
    · have e2 : (o != k) = true := by simpa using e
      refine ⟨o, h1, ?_, h3, h4⟩
      simpa [e2] using h2
def RegsOk (M : Nat) (R : Int → Option Int) : Prop := ∀ o r, R o = some r → 0 ≤ r ∧ r < M
theorem pick_spec (bp rb N M : Nat) (R : Int → Option Int) (v : Int) (ov : Option Nat) (NO : Nat) (p : Int → Bool) (hM : M ≤ 64) (hN : N ≤ 100000000) (hR : RegsOk M R) :
    Spec Try.prog 27 [.pointer (some ⟨bp, 0, none⟩), .int .i64 v, .map ov] [var 67 bp (⟨⟨some rb⟩, (M : Int)⟩ : LivePainter), mp EI 3 rb N R] (fun ok w => RdPs ov NO p ok w ∧ RdD ok w v) fun r L' =>
      (r = .bool true ∧ ∃ c, c < M ∧ ¬ Taken R p v c ∧ (∀ c', c' < c → Taken R p v c') ∧ L' = [var 67 bp (⟨⟨some rb⟩, (M : Int)⟩ : LivePainter), mp EI 3 rb (N + 1) (upd R v (some (c : Int)))]) ∨ (r = .bool false ∧ (∀ c, c < M → Taken R p v c) ∧ L' = [var 67 bp (⟨⟨some rb⟩, (M : Int)⟩ : LivePainter), mp EI 3 rb N R]) := by
  refine spec_of Try.func27 rfl rfl fun w0 f0 ⟨hm, hv⟩ => ?_
  haveI : RdMp EB 3 (okOf w0 f0) w0 ov NO (setP p) := ⟨hm⟩
  (repeat' (first | refine s_move ?_ | refine s_assign ?_ | refine s_nil ?_ | (refine k_C ?_; first | refine s_seq ?_ | refine s_region ?_) | (refine k_E ?_; refine e_seq ?_) | (refine s_alloc ?_; intro b)))
  obtain ⟨bt, rfl⟩ : ∃ q, q = b := ⟨_, rfl⟩
  refine s_rangeS rfl ?_
  intro es clock cnt r hcnt hM'
  (repeat' (first | refine s_nil ?_ | (refine k_C ?_; refine s_block ?_) | (refine k_E ?_; refine e_seq ?_)))
  refine s_loop (σ := (Int → Bool) × Nat × Vn (63 + 1) Bool) (fun s => [(0, .pointer (some ⟨bp, 0, none⟩)), (1, .int .i64 v), (7, .pointer (some ⟨bt, 0, none⟩)), (13, .pointer (some ⟨r, 0, none⟩))])
    (fun s => [itr Try.prog 3 4 ov r es clock s.1 s.2.1, var 91 bt s.2.2, var 67 bp (⟨⟨some rb⟩, (M : Int)⟩ : LivePainter), mp EI 3 rb N R]) (fun s => ∀ c, c < 64 → (nth s.2.2.xs c = true ↔ Gone R p s.1 v c)) (fun s => s.2.1) ((fun k => (setP p k).isSome), cnt, Enc.dflt) (by repeat (first | exact trivial | refine ⟨rfl, ?_⟩)) ?_ PSub.refl ?_
  · intro c hc
    have e : nth (Enc.dflt : Vn (63 + 1) Bool).xs c = false := nth_rep
    dsimp only
    rw [e]
    refine ⟨fun h => (by cases h), fun ⟨o, h1, h2, _⟩ => ?_⟩
    have h2 : (setP p o).isSome = false := h2
    rw [setP_some, h1] at h2; cases h2
  rintro f ⟨todo, c1, u⟩ hJ
  dsimp only at hJ
  (repeat' (first | (refine k_C ?_; first | refine s_seq ?_ | refine s_region ?_)))
  refine s_nextS U_3 hM' rfl (fun hfin => ?_) (fun k x cnt' hk hg ht hF hlt => ?_)
  rotate_left
  · haveI : RdD (okOf w0 f0) w0 k := ⟨hk⟩
    have hpk : p k = true := (setP_ne p k).1 (by rw [hF]; simp)
    dsimp only at hlt ⊢
    (repeat' (first | refine s_nil ?_ | (refine k_C ?_; first | refine s_seq ?_ | refine s_region ?_ | refine s_skip ?_ | refine s_block ?_ | refine s_ift rfl ?_) | (refine k_E ?_; refine e_seq ?_) | refine s_extract rfl rfl ?_))
    refine s_entryS hM' rfl ?_
    (repeat' (first | refine s_move ?_ | refine s_assign ?_ | refine s_nil ?_ | (refine k_C ?_; first | refine s_seq ?_ | refine s_region ?_) | (refine k_E ?_; refine e_seq ?_) | (refine k_load ?_; refine s_ldB rfl rfl ?_) | (refine k_fld ?_; refine s_fldB rfl ?_) | refine s_extract rfl rfl ?_ | refine s_nilck rfl ?_))
    refine s_look_ok rfl rfl hk ?_
    cases hRk : R k with
    | none =>
      (repeat' (first | refine s_move ?_ | refine s_assign ?_ | refine s_nil ?_ | (refine k_C ?_; first | refine s_seq ?_ | refine s_region ?_ | refine s_skip ?_ | refine s_iff rfl ?_) | (refine k_E ?_; first | refine e_seq ?_ | refine e_bk ?_) | (refine k_guard ?_; refine s_off rfl rfl rfl rfl ?_) | refine s_pick rfl ?_ | refine s_extract rfl rfl ?_))
      refine e_lp (fun j => todo j && j != k, cnt', u) (by repeat (first | exact trivial | refine ⟨rfl, ?_⟩)) (fun c hc => (hJ c hc).trans (Gone.skip (Or.inr (by rw [hRk]; simp)))) hlt PSub.refl
    | some rr =>
      obtain ⟨h1, h2⟩ := hR k rr hRk
      obtain ⟨c, rfl⟩ : ∃ c : Nat, rr = (c : Int) := ⟨rr.toNat, by omega⟩
      (repeat' (first | refine s_move ?_ | refine s_assign ?_ | refine s_nil ?_ | (refine k_C ?_; first | refine s_seq ?_ | refine s_region ?_ | refine s_skip ?_ | (refine s_ifn rfl ?_ ?_ <;> intro hc <;> try (exfalso; omega))) | (refine k_E ?_; first | refine e_seq ?_ | refine e_bk ?_) | (refine k_bin ?_; refine s_neq rfl rfl ?_) | (refine k_guard ?_; refine s_on rfl rfl ?_) | refine s_pick rfl ?_ | refine s_extract rfl rfl ?_))
      · refine s_idxV (j := c) rfl rfl (by omega) ?_
        refine s_stVn (j := c) (u := true) rfl rfl (by omega) ?_
        (repeat' (first | refine s_nil ?_ | (refine k_E ?_; refine e_bk ?_)))
        have hkv : k ≠ v := hc
        refine e_lp (fun j => todo j && j != k, cnt', u.set c true) (by repeat (first | exact trivial | refine ⟨rfl, ?_⟩)) (fun d hd => ?_) hlt PSub.refl
        show nth (u.xs.set c true) d = true ↔ _
        rw [nth_set (by rw [u.len]; omega)]
        by_cases e : d = c
        · subst e
          rw [if_pos rfl]
          exact ⟨fun _ => ⟨k, hpk, by simp, hkv, hRk⟩, fun _ => rfl⟩
        · rw [if_neg e]
          exact (hJ d hd).trans (Gone.skip (Or.inr (by rw [hRk]; intro h; exact e (by have := Option.some.inj h; omega))))
      · have hkv : k = v := hc
        refine e_lp (fun j => todo j && j != k, cnt', u) (by repeat (first | exact trivial | refine ⟨rfl, ?_⟩)) (fun c hc => (hJ c hc).trans (Gone.skip (Or.inl hkv))) hlt PSub.refl
  have hu : ∀ c, c < 64 → (nth u.xs c = true ↔ Taken R p v c) := fun c hc => (hJ c hc).trans ⟨fun ⟨o, h1, _, h3, h4⟩ => ⟨o, h1, h3, h4⟩, fun ⟨o, h1, h3, h4⟩ => ⟨o, h1, hfin o ((setP_ne p o).2 h1), h3, h4⟩⟩
  (repeat' (first | refine s_move ?_ | refine s_nil ?_ | (refine k_C ?_; first | refine s_seq ?_ | refine s_region ?_ | refine s_block ?_ | refine s_exit ?_ | refine s_iff rfl ?_) | (refine k_E ?_; first | refine e_seq ?_ | refine e_seq_exit ?_ | refine e_bk_exit ?_ | refine e_lp_exit ?_) | (refine k_load ?_; refine s_ldB rfl rfl ?_) | (refine k_fld ?_; refine s_fldB rfl ?_) | refine s_extract rfl rfl ?_ | refine s_nilck rfl ?_))
  refine s_loop (σ := Nat) (fun c => [(0, .pointer (some ⟨bp, 0, none⟩)), (1, .int .i64 v), (7, .pointer (some ⟨bt, 0, none⟩)), (38, .int .i64 (M : Int)), (39, .int .i64 (c : Int))])
    (fun _ => [var 91 bt u, var 67 bp (⟨⟨some rb⟩, (M : Int)⟩ : LivePainter), mp EI 3 rb N R]) (fun c => c ≤ M ∧ ∀ c', c' < c → Taken R p v c') (fun c => M - c) 0 (by repeat (first | exact trivial | refine ⟨rfl, ?_⟩)) ⟨Nat.zero_le _, fun c' h => absurd h (Nat.not_lt_zero c')⟩ PSub.refl ?_
  rintro g c ⟨hcM, hct⟩
  (repeat' (first | refine s_nil ?_ | (refine k_C ?_; first | refine s_seq ?_ | refine s_region ?_) | (refine k_E ?_; refine e_seq ?_) | (refine k_bin ?_; refine s_lss rfl rfl ?_)))
  (first | (refine k_C ?_; (refine s_ifd rfl ?_ ?_ <;> intro hc <;> try (exfalso; omega))))
  rotate_left
  · (repeat' (first | refine s_assign ?_ | refine s_nil ?_ | (refine k_C ?_; first | refine s_seq ?_ | refine s_region ?_ | refine s_exit ?_ | refine s_ret ?_) | (refine k_E ?_; first | refine e_seq ?_ | refine e_seq_exit ?_ | refine e_bk_exit ?_ | refine e_lp_exit ?_)))
    exact e_done rfl rfl _ (PSub.take [1, 1] rfl) (.inr ⟨rfl, fun c' hc' => hct c' (by omega), rfl⟩)
  have hcn : c < M := by omega
  (repeat' (first | refine s_move ?_ | refine s_assign ?_ | refine s_nil ?_ | (refine k_C ?_; first | refine s_seq ?_ | refine s_region ?_ | refine s_skip ?_ | refine s_block ?_) | (refine k_E ?_; refine e_seq ?_)))
  refine s_idxV (j := c) rfl rfl (by omega) ?_
  refine s_ldVn (j := c) rfl (by omega) ?_
  (repeat' (first | refine s_move ?_ | refine s_nil ?_ | (refine k_C ?_; first | refine s_seq ?_ | refine s_region ?_ | refine s_skip ?_ | (refine s_if rfl ?_ ?_ <;> intro hc)) | (refine k_E ?_; first | refine e_seq ?_ | refine e_bk ?_) | (refine k_load ?_; refine s_ldB rfl rfl ?_) | (refine k_bin ?_; refine s_add1 rfl rfl om ?_) | (refine k_fld ?_; refine s_fldB rfl ?_) | refine s_not rfl ?_ | refine s_nilck rfl ?_))
  · have hf : nth u.xs c = false := by simpa using hc
    refine s_put (yv := (c : Int)) rfl rfl rfl (RdD.int hv) (wfi_iff.1 (by unfold wfi; omega)) (by omega) ?_
    (repeat' (first | refine s_assign ?_ | refine s_nil ?_ | (refine k_C ?_; first | refine s_seq ?_ | refine s_region ?_ | refine s_ret ?_) | (refine k_E ?_; first | refine e_seq ?_ | refine e_seq_ret ?_ | refine e_bk_ret ?_ | refine e_lp_ret ?_)))
    exact e_done rfl rfl _ (PSub.take [1, 1] rfl) (.inl ⟨rfl, c, hcn, fun h => (by have := (hu c (by omega)).2 h; rw [hf] at this; cases this), hct, rfl⟩)
  have ht : nth u.xs c = true := by simpa using hc
  refine e_lp (c + 1) (by repeat (first | exact trivial | refine ⟨rfl, ?_⟩)) ⟨by omega, fun c' hc' => ?_⟩ (by show _ - _ < _ - _; omega) PSub.refl
  rcases Nat.lt_or_ge c' c with h | h
  · exact hct c' h
  · obtain rfl : c' = c := by omega
    exact (hu _ (by omega)).1 ht
end Go.Proofs.Ytfplmdjlgjgbgaa
