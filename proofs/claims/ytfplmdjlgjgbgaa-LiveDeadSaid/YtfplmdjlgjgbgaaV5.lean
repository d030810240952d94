/- Layer 15: pick, walked. -/
import Derived.Test.YtfplmdjlgjgbgaaV4
import Derived.Test.YtfplmdjlgjgbgaaA10
namespace Go.Proofs.Ytfplmdjlgjgbgaa
set_option linter.unusedVariables false
set_option linter.unusedSimpArgs false
open Go Go.RowKit

noncomputable abbrev EI : EK Try.prog 3 Int := ekInt U_3
instance : ArT Try.prog 91 4 64 := ⟨U_91⟩
noncomputable instance : Elt Try.prog 91 (Vn (63 + 1) Bool) (by infer_instance) 64 64 := ⟨⟨_, TI_91, rfl⟩, rfl⟩
/-- A register that others have. -/
def Taken (R : Int → Option Int) (p : Int → Bool) (v : Int) (c : Nat) : Prop := ∃ o, p o = true ∧ o ≠ v ∧ R o = some (c : Int)
/-- .. gone over so far. -/
def Gone (R : Int → Option Int) (p todo : Int → Bool) (v : Int) (c : Nat) : Prop := ∃ o, p o = true ∧ todo o = false ∧ o ≠ v ∧ R o = some (c : Int)
theorem Gone.skip {R : Int → Option Int} {p todo : Int → Bool} {v k : Int} {c : Nat} (h : k = v ∨ R k ≠ some (c : Int)) : Gone R p todo v c ↔ Gone R p (fun j => todo j && j != k) v c := by
  constructor
  · rintro ⟨o, h1, h2, h3, h4⟩
    exact ⟨o, h1, by simp [h2], h3, h4⟩
  · rintro ⟨o, h1, h2, h3, h4⟩
    by_cases e : o = k
    · subst e
      rcases h with h | h
      · exact absurd h h3
      · exact absurd h4 h
    · have e2 : (o != k) = true := by simpa using e
      refine ⟨o, h1, ?_, h3, h4⟩
      simpa [e2] using h2
def RegsOk (M : Nat) (R : Int → Option Int) : Prop := ∀ o r, R o = some r → 0 ≤ r ∧ r < M
theorem pick_spec (bp rb N M : Nat) (R : Int → Option Int) (v : Int) (ov : Option Nat) (NO : Nat) (p : Int → Bool) (hM : M ≤ 64) (hN : N ≤ 100000000) (hR : RegsOk M R) :
    Spec Try.prog 27 [.pointer (some ⟨bp, 0, none⟩), .int .i64 v, .map ov] [var 67 bp (⟨⟨some rb⟩, (M : Int)⟩ : LivePainter), mp EI 3 rb N R] (fun ok w => RdPs ov NO p ok w ∧ RdD ok w v) fun r L' =>
      (r = .bool true ∧ ∃ c, c < M ∧ ¬ Taken R p v c ∧ (∀ c', c' < c → Taken R p v c') ∧ L' = [var 67 bp (⟨⟨some rb⟩, (M : Int)⟩ : LivePainter), mp EI 3 rb (N + 1) (upd R v (some (c : Int)))]) ∨ (r = .bool false ∧ (∀ c, c < M → Taken R p v c) ∧ L' = [var 67 bp (⟨⟨some rb⟩, (M : Int)⟩ : LivePainter), mp EI 3 rb N R]) := by
  refine spec_of Try.func27 rfl rfl fun w0 f0 ⟨hm, hv⟩ => ?_
  haveI : RdMp EB 3 (okOf w0 f0) w0 ov NO (setP p) := ⟨hm⟩
  (repeat' (first | refine s_move ?_ | refine s_assign ?_ | refine s_nil ?_ | (refine k_C ?_; first | refine s_seq ?_ | refine s_region ?_) | (refine k_E ?_; refine e_seq ?_) | (refine s_alloc ?_; intro b)))
  obtain ⟨bt, rfl⟩ : ∃ q, q = b := ⟨_, rfl⟩
  refine s_rangeS rfl ?_
  intro es clock cnt r hcnt hM'
  (repeat' (first | refine s_nil ?_ | (refine k_C ?_; refine s_block ?_) | (refine k_E ?_; refine e_seq ?_)))
  refine s_loop (σ := (Int → Bool) × Nat × Vn (63 + 1) Bool) (fun s => [(0, .pointer (some ⟨bp, 0, none⟩)), (1, .int .i64 v), (7, .pointer (some ⟨bt, 0, none⟩)), (13, .pointer (some ⟨r, 0, none⟩))])
    (fun s => [itr Try.prog 3 4 ov r es clock s.1 s.2.1, var 91 bt s.2.2, var 67 bp (⟨⟨some rb⟩, (M : Int)⟩ : LivePainter), mp EI 3 rb N R]) (fun s => ∀ c, c < 64 → (nth s.2.2.xs c = true ↔ Gone R p s.1 v c)) (fun s => s.2.1) ((fun k => (setP p k).isSome), cnt, Enc.dflt) (by repeat (first | exact trivial | refine ⟨rfl, ?_⟩)) ?_ PSub.refl ?_
  · intro c hc
    have e : nth (Enc.dflt : Vn (63 + 1) Bool).xs c = false := nth_rep
    dsimp only
    rw [e]
    refine ⟨fun h => (by cases h), fun ⟨o, h1, h2, _⟩ => ?_⟩
    have h2 : (setP p o).isSome = false := h2
    rw [setP_some, h1] at h2; cases h2
  rintro f ⟨todo, c1, u⟩ hJ
  dsimp only at hJ
  (repeat' (first | (refine k_C ?_; first | refine s_seq ?_ | refine s_region ?_)))
  refine s_nextS U_3 hM' rfl (fun hfin => ?_) (fun k x cnt' hk hg ht hF hlt => ?_)
  rotate_left
  · haveI : RdD (okOf w0 f0) w0 k := ⟨hk⟩
    have hpk : p k = true := (setP_ne p k).1 (by rw [hF]; simp)
    dsimp only at hlt ⊢
    (repeat' (first | refine s_nil ?_ | (refine k_C ?_; first | refine s_seq ?_ | refine s_region ?_ | refine s_skip ?_ | refine s_block ?_ | refine s_ift rfl ?_) | (refine k_E ?_; refine e_seq ?_) | refine s_extract rfl rfl ?_))
    refine s_entryS hM' rfl ?_
    (repeat' (first | refine s_move ?_ | refine s_assign ?_ | refine s_nil ?_ | (refine k_C ?_; first | refine s_seq ?_ | refine s_region ?_) | (refine k_E ?_; refine e_seq ?_) | (refine k_load ?_; refine s_ldB rfl rfl ?_) | (refine k_fld ?_; refine s_fldB rfl ?_) | refine s_extract rfl rfl ?_ | refine s_nilck rfl ?_))
    refine s_look_ok rfl rfl hk ?_
    cases hRk : R k with
    | none =>
      (repeat' (first | refine s_move ?_ | refine s_assign ?_ | refine s_nil ?_ | (refine k_C ?_; first | refine s_seq ?_ | refine s_region ?_ | refine s_skip ?_ | refine s_iff rfl ?_) | (refine k_E ?_; first | refine e_seq ?_ | refine e_bk ?_) | (refine k_guard ?_; refine s_off rfl rfl rfl rfl ?_) | refine s_pick rfl ?_ | refine s_extract rfl rfl ?_))
      refine e_lp (fun j => todo j && j != k, cnt', u) (by repeat (first | exact trivial | refine ⟨rfl, ?_⟩)) (fun c hc => (hJ c hc).trans (Gone.skip (Or.inr (by rw [hRk]; simp)))) hlt PSub.refl
    | some rr =>
      obtain ⟨h1, h2⟩ := hR k rr hRk
      obtain ⟨c, rfl⟩ : ∃ c : Nat, rr = (c : Int) := ⟨rr.toNat, by omega⟩
      (repeat' (first | refine s_move ?_ | refine s_assign ?_ | refine s_nil ?_ | (refine k_C ?_; first | refine s_seq ?_ | refine s_region ?_ | refine s_skip ?_ | (refine s_ifn rfl ?_ ?_ <;> intro hc <;> try (exfalso; omega))) | (refine k_E ?_; first | refine e_seq ?_ | refine e_bk ?_) | (refine k_bin ?_; refine s_neq rfl rfl ?_) | (refine k_guard ?_; refine s_on rfl rfl ?_) | refine s_pick rfl ?_ | refine s_extract rfl rfl ?_))
      · refine s_idxV (j := c) rfl rfl (by omega) ?_
        refine s_stVn (j := c) (u := true) rfl rfl (by omega) ?_
        (repeat' (first | refine s_nil ?_ | (refine k_E ?_; refine e_bk ?_)))
        have hkv : k ≠ v := hc
        refine e_lp (fun j => todo j && j != k, cnt', u.set c true) (by repeat (first | exact trivial | refine ⟨rfl, ?_⟩)) (fun d hd => ?_) hlt PSub.refl
        show nth (u.xs.set c true) d = true ↔ _
        rw [nth_set (by rw [u.len]; omega)]
        by_cases e : d = c
        · subst e
          rw [if_pos rfl]
          exact ⟨fun _ => ⟨k, hpk, by simp, hkv, hRk⟩, fun _ => rfl⟩
        · rw [if_neg e]
          exact (hJ d hd).trans (Gone.skip (Or.inr (by rw [hRk]; intro h; exact e (by have := Option.some.inj h; omega))))
      · have hkv : k = v := hc
        refine e_lp (fun j => todo j && j != k, cnt', u) (by repeat (first | exact trivial | refine ⟨rfl, ?_⟩)) (fun c hc => (hJ c hc).trans (Gone.skip (Or.inl hkv))) hlt PSub.refl
  have hu : ∀ c, c < 64 → (nth u.xs c = true ↔ Taken R p v c) := fun c hc => (hJ c hc).trans ⟨fun ⟨o, h1, _, h3, h4⟩ => ⟨o, h1, h3, h4⟩, fun ⟨o, h1, h3, h4⟩ => ⟨o, h1, hfin o ((setP_ne p o).2 h1), h3, h4⟩⟩
  (repeat' (first | refine s_move ?_ | refine s_nil ?_ | (refine k_C ?_; first | refine s_seq ?_ | refine s_region ?_ | refine s_block ?_ | refine s_exit ?_ | refine s_iff rfl ?_) | (refine k_E ?_; first | refine e_seq ?_ | refine e_seq_exit ?_ | refine e_bk_exit ?_ | refine e_lp_exit ?_) | (refine k_load ?_; refine s_ldB rfl rfl ?_) | (refine k_fld ?_; refine s_fldB rfl ?_) | refine s_extract rfl rfl ?_ | refine s_nilck rfl ?_))
  refine s_loop (σ := Nat) (fun c => [(0, .pointer (some ⟨bp, 0, none⟩)), (1, .int .i64 v), (7, .pointer (some ⟨bt, 0, none⟩)), (38, .int .i64 (M : Int)), (39, .int .i64 (c : Int))])
    (fun _ => [var 91 bt u, var 67 bp (⟨⟨some rb⟩, (M : Int)⟩ : LivePainter), mp EI 3 rb N R]) (fun c => c ≤ M ∧ ∀ c', c' < c → Taken R p v c') (fun c => M - c) 0 (by repeat (first | exact trivial | refine ⟨rfl, ?_⟩)) ⟨Nat.zero_le _, fun c' h => absurd h (Nat.not_lt_zero c')⟩ PSub.refl ?_
  rintro g c ⟨hcM, hct⟩
  (repeat' (first | refine s_nil ?_ | (refine k_C ?_; first | refine s_seq ?_ | refine s_region ?_) | (refine k_E ?_; refine e_seq ?_) | (refine k_bin ?_; refine s_lss rfl rfl ?_)))
  (first | (refine k_C ?_; (refine s_ifd rfl ?_ ?_ <;> intro hc <;> try (exfalso; omega))))
  rotate_left
  · (repeat' (first | refine s_assign ?_ | refine s_nil ?_ | (refine k_C ?_; first | refine s_seq ?_ | refine s_region ?_ | refine s_exit ?_ | refine s_ret ?_) | (refine k_E ?_; first | refine e_seq ?_ | refine e_seq_exit ?_ | refine e_bk_exit ?_ | refine e_lp_exit ?_)))
    exact e_done rfl rfl _ (PSub.take [1, 1] rfl) (.inr ⟨rfl, fun c' hc' => hct c' (by omega), rfl⟩)
  have hcn : c < M := by omega
  (repeat' (first | refine s_move ?_ | refine s_assign ?_ | refine s_nil ?_ | (refine k_C ?_; first | refine s_seq ?_ | refine s_region ?_ | refine s_skip ?_ | refine s_block ?_) | (refine k_E ?_; refine e_seq ?_)))
  refine s_idxV (j := c) rfl rfl (by omega) ?_
  refine s_ldVn (j := c) rfl (by omega) ?_
  (repeat' (first | refine s_move ?_ | refine s_nil ?_ | (refine k_C ?_; first | refine s_seq ?_ | refine s_region ?_ | refine s_skip ?_ | (refine s_if rfl ?_ ?_ <;> intro hc)) | (refine k_E ?_; first | refine e_seq ?_ | refine e_bk ?_) | (refine k_load ?_; refine s_ldB rfl rfl ?_) | (refine k_bin ?_; refine s_add1 rfl rfl om ?_) | (refine k_fld ?_; refine s_fldB rfl ?_) | refine s_not rfl ?_ | refine s_nilck rfl ?_))
  · have hf : nth u.xs c = false := by simpa using hc
    refine s_put (yv := (c : Int)) rfl rfl rfl (RdD.int hv) (wfi_iff.1 (by unfold wfi; omega)) (by omega) ?_
    (repeat' (first | refine s_assign ?_ | refine s_nil ?_ | (refine k_C ?_; first | refine s_seq ?_ | refine s_region ?_ | refine s_ret ?_) | (refine k_E ?_; first | refine e_seq ?_ | refine e_seq_ret ?_ | refine e_bk_ret ?_ | refine e_lp_ret ?_)))
    exact e_done rfl rfl _ (PSub.take [1, 1] rfl) (.inl ⟨rfl, c, hcn, fun h => (by have := (hu c (by omega)).2 h; rw [hf] at this; cases this), hct, rfl⟩)
  have ht : nth u.xs c = true := by simpa using hc
  refine e_lp (c + 1) (by repeat (first | exact trivial | refine ⟨rfl, ?_⟩)) ⟨by omega, fun c' hc' => ?_⟩ (by show _ - _ < _ - _; omega) PSub.refl
  rcases Nat.lt_or_ge c' c with h | h
  · exact hct c' h
  · obtain rfl : c' = c := by omega
    exact (hu _ (by omega)).1 ht

theorem setP_z (p : Int → Bool) (k : Int) {h} : (setP p k).getD (ekBool (P := Try.prog) (e := 4) h).zero = p k := setP_get p k
/-! Press$1: the greatest number -/
def pressI (us : List Int) (bl : SsaBlock) (m : Nat) (k : Nat) (p : Int → Bool) : Nat := max m (cardU us p + (if (nth bl.fIns.xs k).fDst ≠ 0 ∧ p (nth bl.fIns.xs k).fDst = false then 1 else 0))
noncomputable def pressP (b7 b4 : Nat) (bl : SsaBlock) (m : Nat) : HP := star [var 31 b7 bl, var 3 b4 (m : Int)]
theorem press1_spec (us : List Int) (bl : SsaBlock) (hb : OkB bl) (b7 b4 m k q n : Nat) (p : Int → Bool) (hk : k < bl.fIns.xs.length) (hu : ∀ k, p k = true → k ∈ us) (hul : us.length ≤ 1000000000) :
    Spec Try.prog 21 ([.int .i64 (k : Nat), .map (some q)] ++ [.pointer (some ⟨b7, 0, none⟩), .pointer (some ⟨b4, 0, none⟩)]) [pressP b7 b4 bl m] (fun ok w => RdD ok w bl ∧ RdPs (some q) n p ok w) fun r L' => L' = [pressP b7 b4 bl (pressI us bl m k p)] := by
  refine spec_of Try.func21 rfl rfl fun w0 f0 ⟨hR, hp⟩ => ?_
  haveI : RdMp EB 3 (okOf w0 f0) w0 (some q) n (setP p) := ⟨hp⟩
  refine s_sub (PSub.un2 : PSub w0 f0 (pressP b7 b4 bl m :: []) _) ?_
  (repeat' (first | refine s_move ?_ | (refine k_C ?_; first | refine s_seq ?_ | refine s_region ?_)))
  refine s_lenCS (E := EB) rfl ?_
  intro ks hk1 hk2
  have hc1 := cardU_of hk1 hk2 hu
  have hcl : ks.length ≤ us.length := nodup_le hk1 fun k hk => hu k ((setP_ne p k).1 ((hk2 k).1 hk))
  (repeat' (first | refine s_move ?_ | refine s_assign ?_ | refine s_nil ?_ | (refine k_C ?_; first | refine s_seq ?_ | refine s_region ?_ | refine s_skip ?_ | refine s_iff rfl ?_ | (refine s_if rfl ?_ ?_ <;> intro hc)) | (refine k_E ?_; refine e_seq ?_) | (refine k_load ?_; first | refine s_ldB rfl rfl ?_ | refine s_ldSF rfl rfl om rfl ?_) | (refine k_bin ?_; first | refine s_add1 rfl rfl om ?_ | refine s_neq rfl rfl ?_) | (refine k_fld ?_; first | refine s_fld rfl ?_ | refine s_fldB rfl ?_) | (refine k_idx ?_; refine s_idxS rfl rfl om ?_) | (refine k_store ?_; refine s_stW _ rfl rfl ?_) | (refine k_call ?_; refine s_max rfl rfl ?_) | (refine k_guard ?_; first | refine s_on rfl rfl ?_ | refine s_off rfl rfl rfl rfl ?_ | (refine s_casesn rfl rfl ?_ ?_ <;> intro hc <;> try (exfalso; omega))) | refine s_lookSW rfl rfl ?_ | refine s_not rfl ?_ | refine s_pick rfl ?_))
  · have e : (max (m : Int) ((ks.length + 1 : Nat) : Int)) = ((pressI us bl m k p : Nat) : Int) := by
      rw [setP_z] at hc
      rename_i h0
      unfold pressI
      rw [if_pos ⟨h0, by simpa using hc⟩, ← hc1]; omega
    refine e_done0N rfl [pressP b7 b4 bl (pressI us bl m k p)] (PSub.mk2.trans (PSub.eq ?_)) rfl
    unfold pressP; rw [e]
  · have e : (max (m : Int) (ks.length : Int)) = ((pressI us bl m k p : Nat) : Int) := by
      rw [setP_z] at hc
      unfold pressI
      rw [if_neg (fun h => by rw [h.2] at hc; cases hc), ← hc1]; omega
    refine e_done0N rfl [pressP b7 b4 bl (pressI us bl m k p)] (PSub.mk2.trans (PSub.eq ?_)) rfl
    unfold pressP; rw [e]
  · have e : (max (m : Int) (ks.length : Int)) = ((pressI us bl m k p : Nat) : Int) := by
      unfold pressI
      rw [if_neg (fun h => h.1 (by assumption)), ← hc1]; omega
    refine e_done0N rfl [pressP b7 b4 bl (pressI us bl m k p)] (PSub.mk2.trans (PSub.eq ?_)) rfl
    unfold pressP; rw [e]
/-! block$1: the sets behind each instruction -/
structure LtS where
  mi : Nat → Nat
  xs : List Mr
/-- The sets behind instructions r and on. -/
noncomputable def laterP (bl : SsaBlock) (out : Int → Bool) (b15 bA NN r : Nat) : HP := exH fun z : {z : LtS // z.xs.length = bl.fIns.xs.length ∧ ∀ j, r ≤ j → j < bl.fIns.xs.length → nth z.xs j = ⟨some (z.mi j)⟩} =>
  star [var 50 b15 (⟨some ⟨bA, 0, none⟩, bl.fIns.xs.length, z.1.xs⟩ : Sl Mr), own 58 (some ⟨bA, 0, none⟩) z.1.xs.length bl.fIns.xs.length z.1.xs, star ((List.range' r (bl.fIns.xs.length - r)).map fun j => mp EB 3 (z.1.mi j) NN (setP (liveB bl out (j + 1))))]
theorem block1_spec (bl : SsaBlock) (hb : OkB bl) (out : Int → Bool) (us : List Int) (hu : ∀ j k, liveB bl out j k = true → k ∈ us) (b15 bA k q n : Nat) (hk : k < bl.fIns.xs.length) (hn : n ≤ 200000000) :
    Spec Try.prog 28 ([.int .i64 (k : Nat), .map (some q)] ++ [.pointer (some ⟨b15, 0, none⟩)]) [laterP bl out b15 bA us.length (k + 1)] (fun ok w => RdPs (some q) n (liveB bl out (k + 1)) ok w) fun r L' => L' = [laterP bl out b15 bA us.length k] := by
  refine spec_of Try.func28 rfl rfl fun w0 f0 hp => ?_
  haveI : RdMp EB 3 (okOf w0 f0) w0 (some q) n (setP (liveB bl out (k + 1))) := ⟨hp⟩
  have hbi := hb.i
  refine s_ex ?_
  rintro ⟨⟨mi, xs⟩, hxl, hxs⟩
  dsimp only at hxl hxs ⊢
  refine s_sub PSub.un3 ?_
  (repeat' (first | refine s_move ?_ | refine s_nil ?_ | (refine k_C ?_; first | refine s_seq ?_ | refine s_region ?_) | (refine k_E ?_; refine e_seq ?_) | (refine k_load ?_; refine s_ldB rfl rfl ?_) | (refine k_idx ?_; refine s_idx rfl rfl om ?_) | (refine k_store ?_; refine s_st _ rfl rfl om ?_) | (refine s_mkmapB ?_; intro b)))
  rename Nat => bm
  have hk2 : k < xs.length := by omega
  have hnk : nth (xs.set k (⟨some bm⟩ : Mr)) k = ⟨some bm⟩ := by rw [nth_set hk2, if_pos rfl]
  refine s_rangeS rfl ?_
  intro es clock cnt r hcnt hM
  (repeat' (first | refine s_nil ?_ | (refine k_C ?_; refine s_block ?_) | (refine k_E ?_; refine e_seq ?_)))
  refine s_loop (σ := (Int → Bool) × Nat × Nat) (fun s => [(0, .int .i64 (k : Nat)), (2, .pointer (some ⟨b15, 0, none⟩)), (11, .pointer (some ⟨r, 0, none⟩))])
    (fun s => [itr Try.prog 3 4 (some q) r es clock s.1 s.2.1, mp EB 3 bm s.2.2 (setP (goneP (liveB bl out (k + 1)) s.1)), var 50 b15 (⟨some ⟨bA, 0, none⟩, bl.fIns.xs.length, xs⟩ : Sl Mr), own 58 (some ⟨bA, 0, none⟩) xs.length bl.fIns.xs.length (xs.set k ⟨some bm⟩), star ((List.range' (k + 1) (bl.fIns.xs.length - (k + 1))).map fun j => mp EB 3 (mi j) us.length (setP (liveB bl out (j + 1))))])
    (fun s => s.2.2 + s.2.1 ≤ n) (fun s => s.2.1) ((fun j => (setP (liveB bl out (k + 1)) j).isSome), cnt, 0) (by repeat (first | exact trivial | refine ⟨rfl, ?_⟩)) (by simpa using hcnt) (PSub.eq ?_) ?_
  · simp only [← goneP_start]
  rintro f ⟨todo, c1, n1⟩ hJ
  dsimp only at hJ
  (repeat' (first | (refine k_C ?_; first | refine s_seq ?_ | refine s_region ?_)))
  refine s_nextS U_3 hM rfl (fun hf => ?_) (fun i x cnt' hi hg ht hF hlt => ?_)
  · dsimp only
    (repeat' (first | refine s_nil ?_ | (refine k_C ?_; first | refine s_seq ?_ | refine s_exit ?_ | refine s_iff rfl ?_) | (refine k_E ?_; first | refine e_seq ?_ | refine e_seq_exit ?_ | refine e_bk_exit ?_ | refine e_lp_exit ?_) | refine s_extract rfl rfl ?_))
    rw [goneP_end hf]
    refine e_done0N rfl [laterP bl out b15 bA us.length k] ?_ rfl
    have h1 : PSub w0 f0 _ (laterP bl out b15 bA us.length k :: []) := PSub.exI (⟨⟨updB mi k bm, xs.set k ⟨some bm⟩⟩, by rw [List.length_set]; exact hxl, fun j hj hjn => by
      dsimp only
      by_cases e : j = k
      · subst e; rw [hnk, updB_same]
      · rw [nth_set hk2, if_neg e, updB_ne e]; exact hxs j (by omega) hjn⟩ : {z : LtS // z.xs.length = bl.fIns.xs.length ∧ ∀ j, k ≤ j → j < bl.fIns.xs.length → nth z.xs j = ⟨some (z.mi j)⟩})
    refine PSub.trans ?_ h1
    dsimp only
    refine PSub.trans (PSub.mpCut us U_3 fun j hj => hu _ _ ((setP_ne _ j).1 hj)) ?_
    have e1 : var 50 b15 (⟨some ⟨bA, 0, none⟩, bl.fIns.xs.length, xs⟩ : Sl Mr) = var 50 b15 (⟨some ⟨bA, 0, none⟩, bl.fIns.xs.length, xs.set k ⟨some bm⟩⟩ : Sl Mr) := by
      unfold var
      congr 1
      show [Value.slice _ xs.length _] = [Value.slice _ (xs.set k ⟨some bm⟩).length _]
      rw [List.length_set]
    have e2 : (List.range' k (bl.fIns.xs.length - k)).map (fun j => mp EB 3 (updB mi k bm j) us.length (setP (liveB bl out (j + 1)))) = mp EB 3 bm us.length (setP (liveB bl out (k + 1))) :: (List.range' (k + 1) (bl.fIns.xs.length - (k + 1))).map fun j => mp EB 3 (mi j) us.length (setP (liveB bl out (j + 1))) := by
      rw [show bl.fIns.xs.length - k = (bl.fIns.xs.length - (k + 1)) + 1 by omega, List.range'_succ, List.map_cons, updB_same]
      congr 1
      refine List.map_congr_left fun j hj => ?_
      have := (List.mem_range'_1.1 hj).1
      rw [updB_ne (by omega)]
    rw [e1, e2, List.length_set]
    refine PSub.trans (PSub.take [3, 0, 0, 0] rfl) ?_
    refine PSub.trans (PSub.swap2.trans PSub.starConsI) ?_
    exact (PSub.take [1, 1, 0] rfl).trans PSub.mk3
  · haveI : RdD (okOf w0 f0) w0 i := ⟨hi⟩
    dsimp only at hlt ⊢
    (repeat' (first | refine s_nil ?_ | (refine k_C ?_; first | refine s_seq ?_ | refine s_region ?_ | refine s_skip ?_ | refine s_block ?_ | refine s_ift rfl ?_) | (refine k_E ?_; refine e_seq ?_) | refine s_extract rfl rfl ?_))
    refine s_entryS hM rfl ?_
    (repeat' (first | refine s_move ?_ | refine s_assign ?_ | refine s_nil ?_ | (refine k_C ?_; refine s_region ?_) | (refine k_E ?_; refine e_seq ?_) | (refine k_load ?_; first | refine s_ldB rfl rfl ?_ | refine s_ld rfl om rfl ?_) | (refine k_idx ?_; refine s_idx rfl rfl om ?_) | refine s_extract rfl rfl ?_))
    rw [hnk]
    (repeat' (first | refine s_nil ?_ | (refine k_E ?_; refine e_bk ?_) | refine s_putW (yv := true) rfl rfl rfl trivial om ?_))
    refine e_lp (fun j => todo j && j != i, cnt', n1 + 1) (by repeat (first | exact trivial | refine ⟨rfl, ?_⟩)) (by show n1 + 1 + cnt' ≤ n; omega) hlt (PSub.eq ?_)
    rw [goneP_step hF]

/-- The sets of a function, as they are read. -/
structure SetsOk (f : SsaFunc) (Si So : Sl Mr) (mi mo : Nat → Nat) : Prop where
  i : rowOk f.fBlocks.xs.length f.fBlocks.xs.length Si.xs mi
  o : rowOk f.fBlocks.xs.length f.fBlocks.xs.length So.xs mo
def RdSt (f : SsaFunc) (Si So : Sl Mr) (mi mo : Nat → Nat) (I O : Nat → Int → Bool) : FP → World → Prop := fun ok w => RdD ok w Si ∧ RdD ok w So ∧ ∀ b, b < f.fBlocks.xs.length → RdPs (some (mi b)) (usU f).length (I b) ok w ∧ RdPs (some (mo b)) (usU f).length (O b) ok w
theorem RdSt.lasts (f : SsaFunc) (Si So : Sl Mr) (mi mo : Nat → Nat) (I O : Nat → Int → Bool) : Lasts (RdSt f Si So mi mo I O) := fun ok ok' w w' h hk => ⟨h.1.loc hk, h.2.1.loc hk, fun b hb => ⟨(h.2.2 b hb).1.loc hk, (h.2.2 b hb).2.loc hk⟩⟩
def PickR (M : Nat) (R : Int → Option Int) (p : Int → Bool) (v : Int) (R' : Int → Option Int) : Prop := ∃ c, c < M ∧ ¬ Taken R p v c ∧ (∀ c', c' < c → Taken R p v c') ∧ R' = upd R v (some (c : Int))
def PickNo (M : Nat) (R : Int → Option Int) (p : Int → Bool) (v : Int) : Prop := ∀ c, c < M → Taken R p v c
/-- One value behind the other is given its register. -/
inductive PickL (M : Nat) : List (Int × (Int → Bool)) → (Int → Option Int) → (Int → Option Int) → Prop
  | nil {R} : PickL M [] R R
  | cons {v p l R R1 R2} (h : PickR M R p v R1) (k : PickL M l R1 R2) : PickL M ((v, p) :: l) R R2
theorem PickL.app {M : Nat} {l l' : List (Int × (Int → Bool))} {R R1 R2 : Int → Option Int} (h : PickL M l R R1) (k : PickL M l' R1 R2) : PickL M (l ++ l') R R2 := by
  induction h with
  | nil => exact k
  | cons h _ ih => exact .cons h (ih k)
theorem PickL.one {M : Nat} {R R1 : Int → Option Int} {p : Int → Bool} {v : Int} (h : PickR M R p v R1) : PickL M [(v, p)] R R1 := .cons h .nil
def PickF (M : Nat) (l : List (Int × (Int → Bool))) (R : Int → Option Int) : Prop := ∃ pre v p post R1, l = pre ++ (v, p) :: post ∧ PickL M pre R R1 ∧ PickNo M R1 p v
theorem RegsOk.pick {M : Nat} {R R' : Int → Option Int} {p : Int → Bool} {v : Int} (h : RegsOk M R) (k : PickR M R p v R') : RegsOk M R' := by
  obtain ⟨c, h1, _, _, rfl⟩ := k
  intro o r hr
  unfold upd at hr
  split at hr
  · have := Option.some.inj hr; omega
  · exact h o r hr
/-- What is to be given registers in a block. -/
def jobP (bl : SsaBlock) (inn : Int → Bool) (v : Int) : Int × (Int → Bool) := (v, addL inn bl.fParams.xs)
def jobsI (bl : SsaBlock) (out : Int → Bool) (k : Nat) : List (Int × (Int → Bool)) := (List.range k).flatMap fun k => if (nth bl.fIns.xs k).fDst = 0 then [] else [((nth bl.fIns.xs k).fDst, liveB bl out (k + 1))]
def jobsB (bl : SsaBlock) (inn out : Int → Bool) : List (Int × (Int → Bool)) := bl.fParams.xs.map (jobP bl inn) ++ jobsI bl out bl.fIns.xs.length
theorem jobsI_succ {bl : SsaBlock} {out : Int → Bool} {k : Nat} : jobsI bl out (k + 1) = jobsI bl out k ++ if (nth bl.fIns.xs k).fDst = 0 then [] else [((nth bl.fIns.xs k).fDst, liveB bl out (k + 1))] := by
  unfold jobsI; rw [List.range_succ, List.flatMap_append]; simp
theorem jobsI_pre {bl : SsaBlock} {out : Int → Bool} {k : Nat} : ∀ {n}, k ≤ n → ∃ post, jobsI bl out n = jobsI bl out k ++ post
  | n, h => by
    refine ⟨((List.range' k (n - k)).flatMap fun k => if (nth bl.fIns.xs k).fDst = 0 then [] else [((nth bl.fIns.xs k).fDst, liveB bl out (k + 1))]), ?_⟩
    unfold jobsI
    rw [← List.flatMap_append]
    congr 1
    rw [List.range_eq_range', List.range_eq_range', show n = k + (n - k) by omega, ← List.range'_append_1]
    simp
theorem Ctx.starRd {w0 w1 : World} {f0 f1 : FP} {L1 L2 : List HP} {NN : Nat} {F : Nat → Nat} {G : Nat → Int → Bool} {n j : Nat} (C : Ctx w0 f0 L1 L2 w1 f1) (i : Nat) (hi : L2[i]? = some (star ((List.range' 0 n).map fun j => mp EB 3 (F j) NN (setP (G j))))) (hj : j < n) : RdPs (some (F j)) NN (G j) (okOf w1 f1) w1 := by
  obtain ⟨g, hg, hok⟩ := C.piece hi
  obtain ⟨g1, h1, h2⟩ := star_at hg (i := j) (X := mp EB 3 (F j) NN (setP (G j))) (by rw [List.getElem?_map, List.getElem?_range' (by omega)]; simp)
  exact .inr ⟨F j, rfl, hok _ (h2 _ ((h1.1 _).2 rfl)), h1.2⟩
theorem atS_id {bl : SsaBlock} {p : Int → Bool} {r : Nat} (h : r ≤ bl.fIns.xs.length) : atS (σ := Nat) (fun _ k _ => k) bl p bl.fIns.xs.length r = r := by
  rcases Nat.lt_or_ge r bl.fIns.xs.length with h1 | h1
  · rw [atS_step h1]
  · obtain rfl : r = bl.fIns.xs.length := by omega
    exact atS_end
set_option maxHeartbeats 4000000 in
theorem block_spec (f : SsaFunc) (hf : OkF f) (Si So : Sl Mr) (mi mo : Nat → Nat) (I O : Nat → Int → Bool) (hS : SetsOk f Si So mi mo) (hI : InvQ f I O) (q : Nat) (hb : q < f.fBlocks.xs.length) (bl : SsaBlock) (hbl : nth f.fBlocks.xs q = bl) (bp rb N M : Nat) (R : Int → Option Int) (hM : M ≤ 64) (hN : N ≤ 50000000) (hRg : RegsOk M R) :
    Spec Try.prog 19 [.pointer (some ⟨bp, 0, none⟩), .agg (Enc.enc bl).toArray, .agg (Enc.enc (⟨Si, So⟩ : LiveSets)).toArray, .int .i64 (q : Nat)] [var 67 bp (⟨⟨some rb⟩, (M : Int)⟩ : LivePainter), mp EI 3 rb N R] (fun ok w => RdSt f Si So mi mo I O ok w ∧ RdD ok w bl) fun r L' =>
      ∃ t R' N', r = .bool t ∧ N' ≤ N + 2000 ∧ RegsOk M R' ∧ L' = [var 67 bp (⟨⟨some rb⟩, (M : Int)⟩ : LivePainter), mp EI 3 rb N' R'] ∧ ((t = true ∧ PickL M (jobsB bl (I q) (O q)) R R') ∨ (t = false ∧ PickF M (jobsB bl (I q) (O q)) R)) := by
  refine spec_of Try.func19 rfl rfl fun w0 f0 ⟨hSt, hR⟩ => ?_
  obtain ⟨hSi, hSo, hmaps⟩ := hSt
  haveI : RdMp EB 3 (okOf w0 f0) w0 (some (mi q)) (usU f).length (setP (I q)) := ⟨(hmaps q hb).1⟩
  have hbB : OkB bl := hbl ▸ hf.k q hb
  have hbp := hbB.p
  have hbi := hbB.i
  have hul := hf.u
  have hil := hS.i.1
  have hol := hS.o.1
  (repeat' (first | refine s_move ?_ | refine s_assign ?_ | refine s_nil ?_ | (refine k_C ?_; first | refine s_seq ?_ | refine s_region ?_) | (refine k_E ?_; refine e_seq ?_) | (refine k_load ?_; first | refine s_ldB rfl rfl ?_ | refine s_ldS rfl rfl om rfl ?_) | (refine k_fld ?_; refine s_fldB rfl ?_) | (refine k_idx ?_; refine s_idxS rfl rfl om ?_) | (refine s_box _ rfl ?_; intro b) | (refine s_mkmapB ?_; intro b)))
  rename_i b5 b6
  obtain ⟨m, rfl⟩ : ∃ q, q = b := ⟨_, rfl⟩
  rw [hS.i.2 q hb]
  refine s_rangeS rfl ?_
  intro es clock cnt r hcnt hM'
  (repeat' (first | refine s_nil ?_ | (refine k_C ?_; refine s_block ?_) | (refine k_E ?_; refine e_seq ?_)))
  refine s_loop (σ := (Int → Bool) × Nat × Nat) (fun s => [(0, .pointer (some ⟨bp, 0, none⟩)), (3, .int .i64 (q : Nat)), (5, .pointer (some ⟨b5, 0, none⟩)), (6, .pointer (some ⟨b6, 0, none⟩)), (9, .map (some m)), (24, .pointer (some ⟨r, 0, none⟩))])
    (fun s => [itr Try.prog 3 4 (some (mi q)) r es clock s.1 s.2.1, mp EB 3 m s.2.2 (setP (goneP (I q) s.1)), var 52 b6 (⟨Si, So⟩ : LiveSets), var 31 b5 bl, var 67 bp (⟨⟨some rb⟩, (M : Int)⟩ : LivePainter), mp EI 3 rb N R]) (fun s => s.2.2 + s.2.1 ≤ (usU f).length) (fun s => s.2.1) ((fun k => (setP (I q) k).isSome), cnt, 0) (by repeat (first | exact trivial | refine ⟨rfl, ?_⟩)) (by simpa using hcnt) (PSub.eq ?_) ?_
  · simp only [← goneP_start]
  rintro g ⟨todo, c1, n1⟩ hJ
  dsimp only at hJ
  (repeat' (first | (refine k_C ?_; first | refine s_seq ?_ | refine s_region ?_)))
  refine s_nextS U_3 hM' rfl (fun hfin => ?_) (fun k x cnt' hk hg ht hF hlt => ?_)
  rotate_left
  · haveI : RdD (okOf w0 f0) w0 k := ⟨hk⟩
    dsimp only at hlt ⊢
    (repeat' (first | refine s_nil ?_ | (refine k_C ?_; first | refine s_seq ?_ | refine s_region ?_ | refine s_skip ?_ | refine s_block ?_ | refine s_ift rfl ?_) | (refine k_E ?_; refine e_seq ?_) | refine s_extract rfl rfl ?_))
    refine s_entryS hM' rfl ?_
    (repeat' (first | refine s_move ?_ | refine s_assign ?_ | refine s_nil ?_ | (refine k_C ?_; refine s_region ?_) | (refine k_E ?_; first | refine e_seq ?_ | refine e_bk ?_) | refine s_putW (yv := true) rfl rfl rfl trivial om ?_ | refine s_extract rfl rfl ?_))
    refine e_lp (fun j => todo j && j != k, cnt', n1 + 1) (by repeat (first | exact trivial | refine ⟨rfl, ?_⟩)) (by show n1 + 1 + cnt' ≤ _; omega) hlt (PSub.eq ?_)
    rw [goneP_step hF]
  dsimp only
  (repeat' (first | refine s_move ?_ | refine s_nil ?_ | (refine k_C ?_; first | refine s_seq ?_ | refine s_region ?_ | refine s_block ?_ | refine s_exit ?_ | refine s_iff rfl ?_) | (refine k_E ?_; first | refine e_seq ?_ | refine e_seq_exit ?_ | refine e_bk_exit ?_ | refine e_lp_exit ?_) | (refine k_load ?_; refine s_ldB rfl rfl ?_) | (refine k_fld ?_; refine s_fldB rfl ?_) | (refine k_call ?_; refine s_len rfl ?_) | refine s_extract rfl rfl ?_))
  rw [goneP_end hfin]
  refine s_loop (σ := Nat) (fun i => [(0, .pointer (some ⟨bp, 0, none⟩)), (3, .int .i64 (q : Nat)), (5, .pointer (some ⟨b5, 0, none⟩)), (6, .pointer (some ⟨b6, 0, none⟩)), (9, .map (some m)), (32, .slice bl.fParams.A bl.fParams.xs.length bl.fParams.c), (33, .int .i64 bl.fParams.xs.length), (34, .int .i64 (i : Nat))])
    (fun i => [mp EB 3 m (n1 + i) (setP (addL (I q) (bl.fParams.xs.take i))), var 52 b6 (⟨Si, So⟩ : LiveSets), var 31 b5 bl, var 67 bp (⟨⟨some rb⟩, (M : Int)⟩ : LivePainter), mp EI 3 rb N R]) (fun i => i ≤ bl.fParams.xs.length) (fun i => bl.fParams.xs.length - i) 0 (by repeat (first | exact trivial | refine ⟨rfl, ?_⟩)) (Nat.zero_le _) (PSub.eq (by simp only [List.take_zero, addL_nil, Nat.add_zero])) ?_
  rintro g i hi
  (repeat' (first | refine s_nil ?_ | (refine k_C ?_; first | refine s_seq ?_ | refine s_region ?_) | (refine k_E ?_; refine e_seq ?_) | (refine k_bin ?_; refine s_lss rfl rfl ?_)))
  (first | (refine k_C ?_; (refine s_ifd rfl ?_ ?_ <;> intro hc <;> try (exfalso; omega))))
  · have hin : i < bl.fParams.xs.length := by omega
    (repeat' (first | refine s_move ?_ | refine s_assign ?_ | refine s_nil ?_ | (refine k_C ?_; first | refine s_seq ?_ | refine s_region ?_ | refine s_skip ?_ | refine s_block ?_) | (refine k_E ?_; first | refine e_seq ?_ | refine e_bk ?_) | (refine k_load ?_; refine s_ldS rfl rfl om rfl ?_) | (refine k_bin ?_; refine s_add1 rfl rfl om ?_) | (refine k_idx ?_; refine s_idxS rfl rfl om ?_) | refine s_putW (yv := true) rfl rfl rfl trivial om ?_))
    refine e_lp (i + 1) (by repeat (first | exact trivial | refine ⟨rfl, ?_⟩)) (by show i + 1 ≤ _; omega) (by show _ - _ < _ - _; omega) (PSub.eq ?_)
    rw [setP_put, addL_put, takeN hin]; rfl
  have hiE : i = bl.fParams.xs.length := by omega
  subst hiE
  rw [List.take_length]
  (repeat' (first | refine s_move ?_ | refine s_nil ?_ | (refine k_C ?_; first | refine s_seq ?_ | refine s_region ?_ | refine s_block ?_ | refine s_exit ?_) | (refine k_E ?_; first | refine e_seq ?_ | refine e_seq_exit ?_ | refine e_bk_exit ?_ | refine e_lp_exit ?_) | (refine k_load ?_; refine s_ldB rfl rfl ?_) | (refine k_fld ?_; refine s_fldB rfl ?_) | (refine k_call ?_; refine s_len rfl ?_)))
  refine s_loop (σ := Nat × (Int → Option Int) × Nat) (fun s => [(0, .pointer (some ⟨bp, 0, none⟩)), (3, .int .i64 (q : Nat)), (5, .pointer (some ⟨b5, 0, none⟩)), (6, .pointer (some ⟨b6, 0, none⟩)), (9, .map (some m)), (42, .slice bl.fParams.A bl.fParams.xs.length bl.fParams.c), (43, .int .i64 bl.fParams.xs.length), (44, .int .i64 (s.1 : Nat))])
    (fun s => [mp EB 3 m (n1 + bl.fParams.xs.length) (setP (addL (I q) bl.fParams.xs)), var 52 b6 (⟨Si, So⟩ : LiveSets), var 31 b5 bl, var 67 bp (⟨⟨some rb⟩, (M : Int)⟩ : LivePainter), mp EI 3 rb s.2.2 s.2.1]) (fun s => s.1 ≤ bl.fParams.xs.length ∧ RegsOk M s.2.1 ∧ s.2.2 ≤ N + s.1 ∧ PickL M ((bl.fParams.xs.take s.1).map (jobP bl (I q))) R s.2.1) (fun s => bl.fParams.xs.length - s.1) (0, R, N) (by repeat (first | exact trivial | refine ⟨rfl, ?_⟩)) ⟨Nat.zero_le _, hRg, Nat.le_refl _, .nil⟩ PSub.refl ?_
  rintro g ⟨i, R1, N1⟩ ⟨hi2, hRg1, hN1, hP1⟩
  dsimp only at hi2 hRg1 hN1 hP1 ⊢
  (repeat' (first | refine s_nil ?_ | (refine k_C ?_; first | refine s_seq ?_ | refine s_region ?_) | (refine k_E ?_; refine e_seq ?_) | (refine k_bin ?_; refine s_lss rfl rfl ?_)))
  (first | (refine k_C ?_; (refine s_ifd rfl ?_ ?_ <;> intro hc <;> try (exfalso; omega))))
  · have hin : i < bl.fParams.xs.length := by omega
    (repeat' (first | refine s_move ?_ | refine s_assign ?_ | refine s_nil ?_ | (refine k_C ?_; first | refine s_seq ?_ | refine s_region ?_ | refine s_skip ?_ | refine s_block ?_) | (refine k_E ?_; refine e_seq ?_) | (refine k_load ?_; refine s_ldS rfl rfl om rfl ?_) | (refine k_idx ?_; refine s_idxS rfl rfl om ?_)))
    refine s_call (L2 := [mp EB 3 m (n1 + bl.fParams.xs.length) (setP (addL (I q) bl.fParams.xs)), var 52 b6 (⟨Si, So⟩ : LiveSets), var 31 b5 bl]) [3, 3] (pick_spec bp rb N1 M R1 (nth bl.fParams.xs i) (some m) (n1 + bl.fParams.xs.length) (addL (I q) bl.fParams.xs) hM (by omega) hRg1) rfl rfl (fun w1 f1 C => ⟨C.map m, C.rd (by infer_instance)⟩) ?_
    have hjob : (bl.fParams.xs.take (i + 1)).map (jobP bl (I q)) = (bl.fParams.xs.take i).map (jobP bl (I q)) ++ [(nth bl.fParams.xs i, addL (I q) bl.fParams.xs)] := by rw [← takeN hin, List.map_append]; rfl
    rintro r' L' (⟨rfl, c, hc1, hc2, hc3, rfl⟩ | ⟨rfl, hno, rfl⟩)
    · have hpick : PickR M R1 (addL (I q) bl.fParams.xs) (nth bl.fParams.xs i) (upd R1 (nth bl.fParams.xs i) (some (c : Int))) := ⟨c, hc1, hc2, hc3, rfl⟩
      (repeat' (first | refine s_move ?_ | refine s_nil ?_ | (refine k_C ?_; first | refine s_region ?_ | refine s_skip ?_ | refine s_iff rfl ?_) | (refine k_E ?_; first | refine e_seq ?_ | refine e_bk ?_) | (refine k_bin ?_; refine s_add1 rfl rfl om ?_) | refine s_not rfl ?_))
      exact e_lp (i + 1, upd R1 (nth bl.fParams.xs i) (some (c : Int)), N1 + 1) (by repeat (first | exact trivial | refine ⟨rfl, ?_⟩)) ⟨by show i + 1 ≤ _; omega, hRg1.pick hpick, by show N1 + 1 ≤ N + (i + 1); omega, by show PickL M _ R _; rw [hjob]; exact hP1.app (.one hpick)⟩ (by show _ - _ < _ - _; omega) (PSub.take [2, 2, 2, 0, 0] rfl)
    · (repeat' (first | refine s_assign ?_ | refine s_nil ?_ | (refine k_C ?_; first | refine s_seq ?_ | refine s_region ?_ | refine s_ret ?_ | refine s_ift rfl ?_) | (refine k_E ?_; first | refine e_seq ?_ | refine e_seq_ret ?_ | refine e_bk_ret ?_ | refine e_lp_ret ?_) | refine s_not rfl ?_))
      refine e_done rfl rfl _ (PSub.take [0, 0] rfl) ⟨false, R1, N1, rfl, by omega, hRg1, rfl, .inr ⟨rfl, (bl.fParams.xs.take i).map (jobP bl (I q)), nth bl.fParams.xs i, addL (I q) bl.fParams.xs, (bl.fParams.xs.drop (i + 1)).map (jobP bl (I q)) ++ jobsI bl (O q) bl.fIns.xs.length, R1, ?_, hP1, hno⟩⟩
      unfold jobsB
      conv => lhs; rw [← List.take_append_drop (i + 1) bl.fParams.xs, List.map_append, hjob]
      simp
  have hiE : i = bl.fParams.xs.length := by omega
  subst hiE
  rw [List.take_length] at hP1
  (repeat' (first | (refine k_C ?_; first | refine s_seq ?_ | refine s_region ?_ | refine s_exit ?_) | (refine k_E ?_; first | refine e_seq ?_ | refine e_seq_exit ?_ | refine e_bk_exit ?_ | refine e_lp_exit ?_) | (refine k_load ?_; refine s_ldB rfl rfl ?_) | (refine k_fld ?_; refine s_fldB rfl ?_) | (refine k_call ?_; refine s_len rfl ?_) | (refine s_alloc ?_; intro b) | (refine s_make rfl rfl om ?_; intro b)))
  rename_i bA
  obtain ⟨b15, rfl⟩ : ∃ q, q = b := ⟨_, rfl⟩
  refine s_stW (⟨some ⟨bA, 0, none⟩, bl.fIns.xs.length, List.replicate bl.fIns.xs.length Enc.dflt⟩ : Sl Mr) rfl (by show [Value.slice _ _ _] = [Value.slice _ (List.replicate _ _).length _]; rw [List.length_replicate]) ?_
  (repeat' (first | refine s_nil ?_ | (refine k_C ?_; refine s_seq ?_) | (refine k_E ?_; refine e_seq ?_)))
  refine s_tail (F := ?F18) 7 [0, 1, 2, 3, 4, 5, 6] foI (by kernel_rfl) ?hr18 ?hn18
  case hr18 =>
    change sO _ _ _ _ _ _ (_ :: _ :: _ :: _ :: _ :: _ :: _ :: []) _ _ _
    (repeat' (first | refine s_move ?_ | refine s_nil ?_ | (refine k_load ?_; first | refine s_ldB rfl rfl ?_ | refine s_ldBW rfl rfl ?_ | refine s_ldS rfl rfl om rfl ?_) | (refine k_fld ?_; refine s_fldB rfl ?_) | (refine k_idx ?_; refine s_idxS rfl rfl om ?_) | refine s_func (v1 := []) (v2 := [.pointer _]) rfl rfl ?_))
    exact e_F
  change sO _ _ _ _ _ _ (_ :: []) _ _ _
  rw [hS.o.2 q hb]
  have hu : ∀ j k, liveB bl (O q) j k = true → k ∈ usU f := fun j k h => by
    rcases liveB_in h with h1 | h1
    · exact (hI.us q hb k).2 h1
    · exact usB_in hb (hbl.symm ▸ h1)
  have hLt : ∀ L, PSub w0 f0 (var 50 b15 (⟨some ⟨bA, 0, none⟩, bl.fIns.xs.length, List.replicate bl.fIns.xs.length Enc.dflt⟩ : Sl Mr) :: own 58 (some ⟨bA, 0, none⟩) bl.fIns.xs.length bl.fIns.xs.length (List.replicate bl.fIns.xs.length (Enc.dflt : Mr)) :: L) (laterP bl (O q) b15 bA (usU f).length bl.fIns.xs.length :: L) := fun L => by
    refine PSub.trans ?_ (PSub.exI (⟨⟨fun _ => 0, List.replicate bl.fIns.xs.length Enc.dflt⟩, by rw [List.length_replicate], fun j h1 h2 => absurd h1 (by omega)⟩ : {z : LtS // z.xs.length = bl.fIns.xs.length ∧ ∀ j, bl.fIns.xs.length ≤ j → j < bl.fIns.xs.length → nth z.xs j = ⟨some (z.mi j)⟩}))
    dsimp only
    rw [List.length_replicate, Nat.sub_self]
    exact PSub.starNil.trans (PSub.roll3.trans PSub.mk3)
  refine so_sub (hLt _) ?_
  refine s_call (L2 := [mp EB 3 m (n1 + bl.fParams.xs.length) (setP (addL (I q) bl.fParams.xs)), var 52 b6 (⟨Si, So⟩ : LiveSets), var 31 b5 bl, var 67 bp (⟨⟨some rb⟩, (M : Int)⟩ : LivePainter), mp EI 3 rb N1 R1]) [0] (backF_spec bl hbB (some (mo q)) (usU f).length (O q) (by omega) (fun r => laterP bl (O q) b15 bA (usU f).length r) (fun _ k _ => k) bl.fIns.xs.length 28 [.pointer (some ⟨b15, 0, none⟩)] (fun _ _ => True) Lasts.true (fun k q' n' hk hn' => by
      show Spec _ _ _ [laterP bl (O q) b15 bA (usU f).length (atS (fun _ k _ => k) bl (O q) bl.fIns.xs.length (k + 1))] _ _
      rw [atS_id (by omega)]
      exact (block1_spec bl hbB (O q) (usU f) hu b15 bA k q' n' hk (by omega)).weaken (fun ok w h => h.2) fun v L' h => h)) rfl rfl (fun w1 f1 C => ⟨trivial, (RdPs.lasts _ _ _).ctx (hmaps q hb).2 C, C.rd (by infer_instance)⟩) ?_
  rintro r' L' ⟨m2, N2, rfl, hN2, rfl⟩
  refine so_sub (L' := [laterP bl (O q) b15 bA (usU f).length 0, var 52 b6 (⟨Si, So⟩ : LiveSets), var 31 b5 bl, var 67 bp (⟨⟨some rb⟩, (M : Int)⟩ : LivePainter), mp EI 3 rb N1 R1]) ?_ ?_
  · rw [atS_id (Nat.zero_le _)]
    exact PSub.take [1, 2, 2, 2, 2] rfl
  refine so_ex ?_
  rintro ⟨⟨mi2, xs⟩, hxl, hxs⟩
  dsimp only at hxl hxs ⊢
  rw [Nat.sub_zero]
  refine so_sub PSub.un3 ?_
  (repeat' (first | refine s_move ?_ | refine s_nil ?_ | (refine k_C ?_; first | refine s_seq ?_ | refine s_region ?_ | refine s_block ?_) | (refine k_E ?_; refine e_seq ?_) | (refine k_load ?_; refine s_ldB rfl rfl ?_) | (refine k_fld ?_; refine s_fldB rfl ?_) | (refine k_call ?_; refine s_len rfl ?_)))
  refine s_loop (σ := Nat × (Int → Option Int) × Nat) (fun s => [(0, .pointer (some ⟨bp, 0, none⟩)), (15, .pointer (some ⟨b15, 0, none⟩)), (67, .slice bl.fIns.A bl.fIns.xs.length bl.fIns.c), (68, .int .i64 bl.fIns.xs.length), (69, .int .i64 (s.1 : Nat))])
    (fun s => [var 50 b15 (⟨some ⟨bA, 0, none⟩, bl.fIns.xs.length, xs⟩ : Sl Mr), own 58 (some ⟨bA, 0, none⟩) xs.length bl.fIns.xs.length xs, star ((List.range' 0 bl.fIns.xs.length).map fun j => mp EB 3 (mi2 j) (usU f).length (setP (liveB bl (O q) (j + 1)))), var 67 bp (⟨⟨some rb⟩, (M : Int)⟩ : LivePainter), mp EI 3 rb s.2.2 s.2.1])
    (fun s => s.1 ≤ bl.fIns.xs.length ∧ RegsOk M s.2.1 ∧ s.2.2 ≤ N + bl.fParams.xs.length + s.1 ∧ PickL M (bl.fParams.xs.map (jobP bl (I q)) ++ jobsI bl (O q) s.1) R s.2.1) (fun s => bl.fIns.xs.length - s.1) (0, R1, N1) (by repeat (first | exact trivial | refine ⟨rfl, ?_⟩)) ⟨Nat.zero_le _, hRg1, by show N1 ≤ N + _ + 0; omega, by show PickL M (_ ++ jobsI bl (O q) 0) R R1; unfold jobsI; simpa using hP1⟩ (PSub.take [0, 0, 0, 2, 2] rfl) ?_
  rintro g ⟨k, R2, N3⟩ ⟨hk, hRg2, hN3, hP2⟩
  dsimp only at hk hRg2 hN3 hP2 ⊢
  (repeat' (first | refine s_nil ?_ | (refine k_C ?_; first | refine s_seq ?_ | refine s_region ?_) | (refine k_E ?_; refine e_seq ?_) | (refine k_bin ?_; refine s_lss rfl rfl ?_)))
  (first | (refine k_C ?_; (refine s_ifd rfl ?_ ?_ <;> intro hc <;> try (exfalso; omega))))
  rotate_left
  · have hkE : k = bl.fIns.xs.length := by omega
    subst hkE
    (repeat' (first | refine s_assign ?_ | refine s_nil ?_ | (refine k_C ?_; first | refine s_seq ?_ | refine s_region ?_ | refine s_exit ?_ | refine s_ret ?_) | (refine k_E ?_; first | refine e_seq ?_ | refine e_seq_exit ?_ | refine e_bk_exit ?_ | refine e_lp_exit ?_)))
    exact e_done rfl rfl _ (PSub.take [3, 3] rfl) ⟨true, R2, N3, rfl, by omega, hRg2, rfl, .inl ⟨rfl, hP2⟩⟩
  have hkn : k < bl.fIns.xs.length := by omega
  have hjs := jobsI_succ (bl := bl) (out := O q) (k := k)
  by_cases hd : (nth bl.fIns.xs k).fDst = 0
  · (repeat' (first | refine s_move ?_ | refine s_assign ?_ | refine s_nil ?_ | (refine k_C ?_; first | refine s_seq ?_ | refine s_region ?_ | refine s_skip ?_ | refine s_block ?_) | (refine k_E ?_; refine e_seq ?_) | (refine k_load ?_; refine s_ldSA rfl rfl om rfl ?_) | (refine k_idx ?_; refine s_idxS rfl rfl om ?_) | (refine k_store ?_; refine s_stW _ rfl rfl ?_) | (refine s_alloc ?_; intro b)))
    rename Nat => b17
    refine s_tail (F := ?F22) 11 [0, 1, 2, 3, 4, 5, 6, 7, 8, 9, 10] foI (by kernel_rfl) ?hr22 ?hn22
    case hr22 =>
      change sO _ _ _ _ _ _ (_ :: _ :: _ :: _ :: _ :: _ :: _ :: _ :: _ :: _ :: _ :: []) _ _ _
      (repeat' (first | refine s_move ?_ | refine s_nil ?_ | (refine k_load ?_; refine s_ldB rfl rfl ?_) | (refine k_bin ?_; refine s_neq rfl rfl ?_) | (refine k_fld ?_; refine s_fldB rfl ?_) | (refine k_guard ?_; first | refine s_off rfl rfl rfl rfl ?_ | (refine s_casesn rfl rfl ?_ ?_ <;> intro hc <;> try (exfalso; omega)))))
      exact e_F
    change sO _ _ _ _ _ _ (_ :: _ :: _ :: []) _ _ _
    (repeat' (first | refine s_move ?_ | refine s_nil ?_ | (refine k_C ?_; first | refine s_region ?_ | refine s_skip ?_ | refine s_iff rfl ?_) | (refine k_E ?_; first | refine e_seq ?_ | refine e_bk ?_) | (refine k_bin ?_; refine s_add1 rfl rfl om ?_) | (refine k_guard ?_; refine s_off rfl rfl rfl rfl ?_) | refine s_pick rfl ?_))
    rw [if_pos hd, List.append_nil] at hjs
    exact e_lp (k + 1, R2, N3) (by repeat (first | exact trivial | refine ⟨rfl, ?_⟩)) ⟨by show k + 1 ≤ _; omega, hRg2, by show N3 ≤ N + _ + (k + 1); omega, by show PickL M (_ ++ jobsI bl (O q) (k + 1)) R R2; rw [hjs]; exact hP2⟩ (by show _ - _ < _ - _; omega) (PSub.take [1, 1, 1, 1, 1] rfl)
  · rw [if_neg hd] at hjs
    (repeat' (first | refine s_move ?_ | refine s_assign ?_ | refine s_nil ?_ | (refine k_C ?_; first | refine s_seq ?_ | refine s_region ?_ | refine s_skip ?_ | refine s_block ?_) | (refine k_E ?_; refine e_seq ?_) | (refine k_load ?_; refine s_ldSA rfl rfl om rfl ?_) | (refine k_idx ?_; refine s_idxS rfl rfl om ?_) | (refine k_store ?_; refine s_stW _ rfl rfl ?_) | (refine s_alloc ?_; intro b)))
    rename Nat => b17
    refine s_tail (F := ?F23) 11 [0, 1, 2, 3, 4, 5, 6, 7, 8, 9, 10] foI (by kernel_rfl) ?hr23 ?hn23
    case hr23 =>
      change sO _ _ _ _ _ _ (_ :: _ :: _ :: _ :: _ :: _ :: _ :: _ :: _ :: _ :: _ :: []) _ _ _
      (repeat' (first | refine s_move ?_ | refine s_nil ?_ | (refine k_load ?_; first | refine s_ldB rfl rfl ?_ | refine s_ld rfl om rfl ?_) | (refine k_bin ?_; refine s_neq rfl rfl ?_) | (refine k_fld ?_; refine s_fldB rfl ?_) | (refine k_idx ?_; refine s_idx rfl rfl om ?_) | (refine k_guard ?_; first | refine s_on rfl rfl ?_ | (refine s_casesn rfl rfl ?_ ?_ <;> intro hc <;> try (exfalso; omega)))))
      exact e_F
    change sO _ _ _ _ _ _ (_ :: _ :: _ :: []) _ _ _
    rw [hxs k (Nat.zero_le _) hkn]
    refine s_on rfl rfl ?_
    refine s_call (L2 := [var 35 b17 (nth bl.fIns.xs k), var 50 b15 (⟨some ⟨bA, 0, none⟩, bl.fIns.xs.length, xs⟩ : Sl Mr), own 58 (some ⟨bA, 0, none⟩) xs.length bl.fIns.xs.length xs, star ((List.range' 0 bl.fIns.xs.length).map fun j => mp EB 3 (mi2 j) (usU f).length (setP (liveB bl (O q) (j + 1))))]) [4, 4] (pick_spec bp rb N3 M R2 (nth bl.fIns.xs k).fDst (some (mi2 k)) (usU f).length (liveB bl (O q) (k + 1)) hM (by omega) hRg2) rfl rfl (fun w1 f1 C => ⟨C.starRd (F := mi2) (G := fun j => liveB bl (O q) (j + 1)) 3 rfl hkn, C.rd (by infer_instance)⟩) ?_
    rintro r' L' (⟨rfl, c, hc1, hc2, hc3, rfl⟩ | ⟨rfl, hno, rfl⟩)
    · have hpick : PickR M R2 (liveB bl (O q) (k + 1)) (nth bl.fIns.xs k).fDst (upd R2 (nth bl.fIns.xs k).fDst (some (c : Int))) := ⟨c, hc1, hc2, hc3, rfl⟩
      (repeat' (first | refine s_move ?_ | refine s_nil ?_ | (refine k_C ?_; first | refine s_region ?_ | refine s_skip ?_ | refine s_iff rfl ?_) | (refine k_E ?_; first | refine e_seq ?_ | refine e_bk ?_) | (refine k_bin ?_; refine s_add1 rfl rfl om ?_) | (refine k_guard ?_; refine s_on rfl rfl ?_) | refine s_not rfl ?_ | refine s_pick rfl ?_))
      exact e_lp (k + 1, upd R2 (nth bl.fIns.xs k).fDst (some (c : Int)), N3 + 1) (by repeat (first | exact trivial | refine ⟨rfl, ?_⟩)) ⟨by show k + 1 ≤ _; omega, hRg2.pick hpick, by show N3 + 1 ≤ N + _ + (k + 1); omega, by show PickL M (_ ++ jobsI bl (O q) (k + 1)) R _; rw [hjs, ← List.append_assoc]; exact hP2.app (.one hpick)⟩ (by show _ - _ < _ - _; omega) (PSub.take [3, 3, 3, 0, 0] rfl)
    · (repeat' (first | refine s_assign ?_ | refine s_nil ?_ | (refine k_C ?_; first | refine s_seq ?_ | refine s_region ?_ | refine s_ret ?_ | refine s_ift rfl ?_) | (refine k_E ?_; first | refine e_seq ?_ | refine e_seq_ret ?_ | refine e_bk_ret ?_ | refine e_lp_ret ?_) | (refine k_guard ?_; refine s_on rfl rfl ?_) | refine s_not rfl ?_ | refine s_pick rfl ?_))
      obtain ⟨post, hpost⟩ := jobsI_pre (bl := bl) (out := O q) (k := k + 1) (n := bl.fIns.xs.length) (by omega)
      refine e_done rfl rfl _ (PSub.take [0, 0] rfl) ⟨false, R2, N3, rfl, by omega, hRg2, rfl, .inr ⟨rfl, bl.fParams.xs.map (jobP bl (I q)) ++ jobsI bl (O q) k, (nth bl.fIns.xs k).fDst, liveB bl (O q) (k + 1), post, R2, ?_, hP2, hno⟩⟩
      unfold jobsB
      rw [hpost, hjs]
      simp
end Go.Proofs.Ytfplmdjlgjgbgaa
