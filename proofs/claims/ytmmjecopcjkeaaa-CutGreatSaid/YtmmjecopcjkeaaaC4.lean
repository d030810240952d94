/- seek: which places can be come to. -/
import Derived.Test.YtmmjecopcjkeaaaC3
namespace Go.Proofs.Ytmmjecopcjkeaaa
set_option linter.unusedVariables false
set_option linter.unusedSimpArgs false
open Go Go.RowKit

/-- Ways and what leads out of each place, as seek wants them. -/
structure Gr (arcs : List CutArc) (ss : List (Sl Int)) : Prop where
  n2 : 2 ≤ ss.length
  n : ss.length ≤ 10000
  m : arcs.length ≤ 100000
  row : ∀ v, (nth ss v).xs.length ≤ 100000
  mem : ∀ v, ∀ a ∈ (nth ss v).xs, 0 ≤ a ∧ a < arcs.length
  to : ∀ k, k < arcs.length → 0 ≤ (nth arcs k).fTo ∧ (nth arcs k).fTo < ss.length
structure SkI (arcs : List CutArc) (ss : List (Sl Int)) (bs : List Int) (ord : List Nat) : Prop where
  len : bs.length = ss.length
  fst : nth bs (ss.length - 2) = -2
  nd : ord.Nodup
  mem : ∀ v, v ∈ ord ↔ v < ss.length ∧ nth bs v ≠ -1
  par : ∀ v ∈ ord, v = ss.length - 2 ∨ ∃ k : Nat, nth bs v = (k : Int) ∧ k < arcs.length ∧ (nth arcs k).fTo = v ∧ 0 < (nth arcs k).fLeft ∧ ∃ t p q, (k : Int) ∈ (nth ss t).xs ∧ ord = p ++ v :: q ∧ t ∈ p
def Clo13 (arcs : List CutArc) (bs : List Int) (rs : List Int) : Prop := ∀ a ∈ rs, 0 < (nth arcs a.toNat).fLeft → nth bs (nth arcs a.toNat).fTo.toNat ≠ -1
/-- What seek finds. -/
def Seek (arcs : List CutArc) (ss : List (Sl Int)) (bs : List Int) : Prop := ∃ ord, SkI arcs ss bs ord ∧ ∀ v ∈ ord, Clo13 arcs bs (nth ss v).xs
theorem set_ne {bs : List Int} {u : Nat} {k : Int} (hk : k ≠ -1) (hu : u < bs.length) {x : Nat} (h : nth bs x ≠ -1) : nth (bs.set u k) x ≠ -1 := by
  rw [nth_set hu]
  split
  · exact hk
  · exact h
theorem Clo13.mono {arcs : List CutArc} {bs rs : List Int} {u : Nat} {k : Int} (h : Clo13 arcs bs rs) (hk : k ≠ -1) (hu : u < bs.length) : Clo13 arcs (bs.set u k) rs := fun a ha hl => set_ne hk hu (h a ha hl)
theorem SkI.step {arcs : List CutArc} {ss : List (Sl Int)} {bs : List Int} {ord : List Nat} (h : SkI arcs ss bs ord) {v k u : Nat} (hv : v ∈ ord) (hk : (k : Int) ∈ (nth ss v).xs) (hkl : k < arcs.length) (hl : 0 < (nth arcs k).fLeft) (hu : (nth arcs k).fTo = u) (hul : u < ss.length) (hb : nth bs u = -1) (hn2 : 2 ≤ ss.length) : SkI arcs ss (bs.set u k) (ord ++ [u]) := by
  have hub : u < bs.length := by rw [h.len]; exact hul
  have hno : u ∉ ord := fun hm => ((h.mem u).1 hm).2 hb
  have hk1 : (k : Int) ≠ -1 := by omega
  refine ⟨by simp [h.len], ?_, ?_, fun w => ?_, fun w hw => ?_⟩
  · rw [nth_set hub]
    have : ¬ ss.length - 2 = u := fun e => by
      have := h.fst
      rw [e, hb] at this
      omega
    rw [if_neg this]; exact h.fst
  · rw [List.nodup_append]
    exact ⟨h.nd, by simp, fun a ha b hb e => hno (by rw [List.mem_singleton] at hb; rw [← hb, ← e]; exact ha)⟩
  · rw [List.mem_append, List.mem_singleton, h.mem w, nth_set hub]
    by_cases e : w = u
    · subst e; simp [hk1, hul]
    · simp [e]
  · rcases List.mem_append.1 hw with hw | hw
    · have hwu : w ≠ u := fun e => hno (e ▸ hw)
      rcases h.par w hw with e | ⟨k', h1, h2, h3, h4, t, p, q, h5, h6, h7⟩
      · exact .inl e
      · exact .inr ⟨k', by rw [nth_set hub, if_neg hwu]; exact h1, h2, h3, h4, t, p, q ++ [u], h5, by rw [h6]; simp, h7⟩
    · rw [List.mem_singleton] at hw
      subst hw
      exact .inr ⟨k, by rw [nth_set hub, if_pos rfl], hkl, hu, hl, v, ord, [], hk, rfl, hv⟩
def cntU (bs : List Int) : Nat := bs.countP (· == -1)
theorem cntU_set {bs : List Int} {u : Nat} {k : Int} (hu : u < bs.length) (h0 : nth bs u = -1) (hk : k ≠ -1) : cntU (bs.set u k) + 1 = cntU bs := by
  unfold cntU
  rw [nth_get hu] at h0
  rw [List.countP_set hu]
  have : 0 < bs.countP (· == -1) := List.countP_pos_iff.2 ⟨bs[u], List.getElem_mem hu, by simp [h0]⟩
  simp [h0, hk]
  omega
theorem cntU_le {bs : List Int} : cntU bs ≤ bs.length := List.countP_le_length
set_option maxHeartbeats 4000000 in
theorem seek13_spec (b0 : Nat) (A1 : Option Addr) (c1 : Nat) (arcs : List CutArc) (A2 : Option Addr) (c2 : Nat) (ss : List (Sl Int)) (hg : Gr arcs ss) : Spec Try.prog 19 [.pointer (some ⟨b0, 0, none⟩)] (fl13 b0 A1 c1 arcs A2 c2 ss) (fun _ _ => True)
      fun v L' => ∃ A bs, v = .slice A ss.length ss.length ∧ Seek arcs ss bs ∧ L' = own 3 A ss.length ss.length bs :: fl13 b0 A1 c1 arcs A2 c2 ss := by
  refine spec_of Try.func19 rfl rfl fun w0 f0 _ => ?_
  have hn := hg.n
  have hn2 := hg.n2
  have hm := hg.m
  (repeat' (first | refine s_move ?_ | refine s_assign ?_ | refine s_nil ?_ | (refine k_C ?_; first | refine s_seq ?_ | refine s_region ?_ | refine s_stillP foI rfl (by kernel_rfl) ?_ | refine s_skip ?_ | refine s_block ?_ | refine s_exit ?_ | refine s_ret ?_ | refine s_ift rfl ?_ | refine s_iff rfl ?_ | (refine s_ifd rfl ?_ ?_ <;> intro hc <;> try (exfalso; omega)) | (refine s_ifn rfl ?_ ?_ <;> intro hc <;> try (exfalso; omega)) | (refine s_if rfl ?_ ?_ <;> intro hc)) | (refine k_E ?_; first | refine e_seq ?_ | refine e_seq_ret ?_ | refine e_seq_exit ?_ | refine e_bk_exit ?_ | refine e_bk_ret ?_ | refine e_bk ?_ | refine e_bk_out rfl ?_ | refine e_lp_ret ?_ | refine e_lp_exit ?_ | refine e_ct_ret ?_ | refine e_ct_exit ?_) | (refine k_load ?_; first | refine s_ldB rfl rfl ?_ | refine s_ldBW rfl rfl ?_ | refine s_ldBA rfl (by decide) ?_ | refine s_ldRB rfl rfl ?_ | refine s_ldRBA rfl (by decide) ?_ | refine s_ld rfl om rfl ?_ | refine s_ldF rfl om rfl ?_ | refine s_ldA rfl om rfl ?_ | refine s_ldFA rfl om (by decide) ?_ | refine s_ldR rfl om rfl ?_ | refine s_ldS rfl rfl om rfl ?_ | refine s_ldSF rfl rfl om rfl ?_ | refine s_ldSA rfl rfl om rfl ?_ | refine s_ldSFA rfl rfl om (by decide) ?_) | (refine k_bin ?_; first | refine s_lss rfl rfl ?_ | refine s_add1 rfl rfl om ?_ | refine s_add64 rfl rfl om ?_ | refine s_sub64 rfl rfl om ?_ | refine s_eql rfl rfl ?_ | refine s_neq rfl rfl ?_ | refine s_gtr rfl rfl ?_ | refine s_geq rfl rfl ?_ | refine s_leq rfl rfl ?_ | refine s_beq rfl rfl ?_ | refine s_pnil rfl rfl ?_ | refine s_snil rfl rfl ?_ | refine s_bne rfl rfl ?_ | refine s_rem rfl rfl om ?_ | refine s_mul64 rfl rfl om ?_ | refine s_xor1 rfl rfl om ?_ | refine s_xor1I rfl rfl om om ?_) | (refine k_fld ?_; first | refine s_fld rfl ?_ | refine s_fldB rfl ?_) | (refine k_idx ?_; first | refine s_idx rfl rfl om ?_ | refine s_idxI rfl rfl om om ?_ | refine s_idxR rfl rfl om ?_ | refine s_idxRI rfl rfl om om ?_ | refine s_idxS rfl rfl om ?_ | refine s_idxSI rfl rfl om om ?_ | refine s_idxV (j := 0) rfl rfl (by decide) ?_ | refine s_idxV rfl rfl (by decide) ?_) | (refine k_store ?_; first | refine s_stW _ rfl rfl ?_ | refine s_st _ rfl rfl om ?_ | refine s_stB _ rfl rfl rfl (by decide) ?_) | (refine k_call ?_; first | refine s_len rfl ?_ | refine s_min rfl rfl ?_ | refine s_max rfl rfl ?_ | (refine s_appS rfl rfl om ?_; intro A c) | (refine s_appO rfl rfl om ?_; intro A c)) | (refine k_guard ?_; first | refine s_on rfl rfl ?_ | refine s_off rfl rfl rfl rfl ?_ | refine s_offU rfl rfl rfl rfl ?_ | (refine s_casesd rfl rfl ?_ ?_ <;> intro hc <;> try (exfalso; omega)) | (refine s_casesn rfl rfl ?_ ?_ <;> intro hc <;> try (exfalso; omega)) | (refine s_cases rfl rfl ?_ ?_ <;> intro hc)) | refine s_func (v1 := []) (v2 := [.pointer _]) rfl rfl ?_ | refine s_func (v1 := []) (v2 := []) rfl rfl ?_ | refine s_putW (yv := true) rfl rfl rfl trivial om ?_ | refine s_putIW (yv := true) rfl rfl rfl trivial om ?_ | refine s_lookW rfl rfl ?_ | refine s_lookSW rfl rfl ?_ | (refine s_alloc ?_; intro b) | (refine s_box _ rfl ?_; intro b) | (refine s_make rfl rfl om ?_; intro b) | (refine s_makeI rfl rfl om om ?_; intro b) | refine s_cutH rfl rfl om om ?_ | (refine s_cutL rfl rfl om ?_; intro A) | refine s_not rfl ?_ | refine s_pick rfl ?_ | refine s_extract rfl rfl ?_ | refine s_nilck rfl ?_ | (refine s_app1 _ (fun _ => rfl) rfl om ?_; intro v A c) | (refine s_app1N _ (fun _ => rfl) rfl (by decide) ?_; intro v A c) | (refine s_mkmapB ?_; intro b) | (refine s_mkmapI ?_; intro b) | (refine s_lit [] rfl (by decide) rfl ?_; intro b) | (refine s_lit [_] rfl (by decide) rfl ?_; intro b) | (refine s_lit [_, _] rfl (by decide) rfl ?_; intro b) | (refine s_lit [_, _, _] rfl (by decide) rfl ?_; intro b)))
  rename Nat => bb
  refine s_loop (σ := Nat × List Int) (fun s => [(0, .pointer (some ⟨b0, 0, none⟩)), (3, .slice (some ⟨bb, 0, none⟩) ss.length ss.length), (18, .int .i64 ss.length), (19, .int .i64 s.1)]) (fun s => own 3 (some ⟨bb, 0, none⟩) ss.length ss.length s.2 :: fl13 b0 A1 c1 arcs A2 c2 ss)
    (fun s => s.1 ≤ ss.length ∧ s.2.length = ss.length ∧ ∀ j, j < s.1 → nth s.2 j = -1) (fun s => ss.length - s.1) (0, List.replicate ss.length Enc.dflt) (by repeat (first | exact trivial | refine ⟨rfl, ?_⟩)) ⟨Nat.zero_le _, by simp, fun j hj => absurd hj (Nat.not_lt_zero j)⟩ PSub.refl ?_
  rintro g ⟨i, bs⟩ ⟨hi, hbl, hbm⟩
  dsimp only at hi hbl hbm ⊢
  (repeat' (first | refine s_move ?_ | refine s_assign ?_ | refine s_nil ?_ | (refine k_C ?_; first | refine s_seq ?_ | refine s_region ?_ | refine s_stillP foI rfl (by kernel_rfl) ?_ | refine s_skip ?_ | refine s_block ?_ | refine s_exit ?_ | refine s_ret ?_ | refine s_ift rfl ?_ | refine s_iff rfl ?_ | (refine s_ifd rfl ?_ ?_ <;> intro hc <;> try (exfalso; omega)) | (refine s_ifn rfl ?_ ?_ <;> intro hc <;> try (exfalso; omega)) | (refine s_if rfl ?_ ?_ <;> intro hc)) | (refine k_E ?_; first | refine e_seq ?_ | refine e_seq_ret ?_ | refine e_seq_exit ?_ | refine e_bk_exit ?_ | refine e_bk_ret ?_ | refine e_bk ?_ | refine e_bk_out rfl ?_ | refine e_lp_ret ?_ | refine e_lp_exit ?_ | refine e_ct_ret ?_ | refine e_ct_exit ?_) | (refine k_load ?_; first | refine s_ldB rfl rfl ?_ | refine s_ldBW rfl rfl ?_ | refine s_ldBA rfl (by decide) ?_ | refine s_ldRB rfl rfl ?_ | refine s_ldRBA rfl (by decide) ?_ | refine s_ld rfl om rfl ?_ | refine s_ldF rfl om rfl ?_ | refine s_ldA rfl om rfl ?_ | refine s_ldFA rfl om (by decide) ?_ | refine s_ldR rfl om rfl ?_ | refine s_ldS rfl rfl om rfl ?_ | refine s_ldSF rfl rfl om rfl ?_ | refine s_ldSA rfl rfl om rfl ?_ | refine s_ldSFA rfl rfl om (by decide) ?_) | (refine k_bin ?_; first | refine s_lss rfl rfl ?_ | refine s_add1 rfl rfl om ?_ | refine s_add64 rfl rfl om ?_ | refine s_sub64 rfl rfl om ?_ | refine s_eql rfl rfl ?_ | refine s_neq rfl rfl ?_ | refine s_gtr rfl rfl ?_ | refine s_geq rfl rfl ?_ | refine s_leq rfl rfl ?_ | refine s_beq rfl rfl ?_ | refine s_pnil rfl rfl ?_ | refine s_snil rfl rfl ?_ | refine s_bne rfl rfl ?_ | refine s_rem rfl rfl om ?_ | refine s_mul64 rfl rfl om ?_ | refine s_xor1 rfl rfl om ?_ | refine s_xor1I rfl rfl om om ?_) | (refine k_fld ?_; first | refine s_fld rfl ?_ | refine s_fldB rfl ?_) | (refine k_idx ?_; first | refine s_idx rfl rfl om ?_ | refine s_idxI rfl rfl om om ?_ | refine s_idxR rfl rfl om ?_ | refine s_idxRI rfl rfl om om ?_ | refine s_idxS rfl rfl om ?_ | refine s_idxSI rfl rfl om om ?_ | refine s_idxV (j := 0) rfl rfl (by decide) ?_ | refine s_idxV rfl rfl (by decide) ?_) | (refine k_store ?_; first | refine s_stW _ rfl rfl ?_ | refine s_st _ rfl rfl om ?_ | refine s_stB _ rfl rfl rfl (by decide) ?_) | (refine k_call ?_; first | refine s_len rfl ?_ | refine s_min rfl rfl ?_ | refine s_max rfl rfl ?_ | (refine s_appS rfl rfl om ?_; intro A c) | (refine s_appO rfl rfl om ?_; intro A c)) | (refine k_guard ?_; first | refine s_on rfl rfl ?_ | refine s_off rfl rfl rfl rfl ?_ | refine s_offU rfl rfl rfl rfl ?_ | (refine s_casesd rfl rfl ?_ ?_ <;> intro hc <;> try (exfalso; omega)) | (refine s_casesn rfl rfl ?_ ?_ <;> intro hc <;> try (exfalso; omega)) | (refine s_cases rfl rfl ?_ ?_ <;> intro hc)) | refine s_func (v1 := []) (v2 := [.pointer _]) rfl rfl ?_ | refine s_func (v1 := []) (v2 := []) rfl rfl ?_ | refine s_putW (yv := true) rfl rfl rfl trivial om ?_ | refine s_putIW (yv := true) rfl rfl rfl trivial om ?_ | refine s_lookW rfl rfl ?_ | refine s_lookSW rfl rfl ?_ | (refine s_alloc ?_; intro b) | (refine s_box _ rfl ?_; intro b) | (refine s_make rfl rfl om ?_; intro b) | (refine s_makeI rfl rfl om om ?_; intro b) | refine s_cutH rfl rfl om om ?_ | (refine s_cutL rfl rfl om ?_; intro A) | refine s_not rfl ?_ | refine s_pick rfl ?_ | refine s_extract rfl rfl ?_ | refine s_nilck rfl ?_ | (refine s_app1 _ (fun _ => rfl) rfl om ?_; intro v A c) | (refine s_app1N _ (fun _ => rfl) rfl (by decide) ?_; intro v A c) | (refine s_mkmapB ?_; intro b) | (refine s_mkmapI ?_; intro b) | (refine s_lit [] rfl (by decide) rfl ?_; intro b) | (refine s_lit [_] rfl (by decide) rfl ?_; intro b) | (refine s_lit [_, _] rfl (by decide) rfl ?_; intro b) | (refine s_lit [_, _, _] rfl (by decide) rfl ?_; intro b)))
  · refine e_lp (i + 1, bs.set i (-1)) (by repeat (first | exact trivial | refine ⟨rfl, ?_⟩)) ⟨by show i + 1 ≤ _; omega, by simp [hbl], fun j hj => ?_⟩ (by show _ - _ < _ - _; omega) PSub.refl
    rw [nth_set (by omega)]
    split
    · rfl
    · exact hbm j (by omega)
  have hi' : i = ss.length := by omega
  subst hi'
  have hF : ((ss.length : Int) - 2).toNat = ss.length - 2 := by omega
  have hF1 : nth (bs.set (ss.length - 2) (-2)) (ss.length - 2) = -2 := by rw [nth_set (by omega), if_pos rfl]
  have hS0 : SkI arcs ss (bs.set (ss.length - 2) (-2)) [ss.length - 2] := by
    refine ⟨by simp [hbl], hF1, by simp, fun v => ?_, fun v hv => .inl (by simpa using hv)⟩
    rw [List.mem_singleton, nth_set (by omega)]
    by_cases e : v = ss.length - 2
    · subst e; simp; omega
    · rw [if_neg e]
      constructor
      · exact fun h => absurd h e
      · exact fun h => absurd (hbm v h.1) h.2
  have hcu : cntU (bs.set (ss.length - 2) (-2)) + 1 ≤ ss.length := by
    rw [cntU_set (by omega) (hbm _ (by omega)) (by omega)]
    exact Nat.le_trans cntU_le (by omega)
  refine s_loop (σ := List Int × List Nat × List Int × Option Addr × Nat × Nat) (fun s => [(0, .pointer (some ⟨b0, 0, none⟩)), (3, .slice (some ⟨bb, 0, none⟩) ss.length ss.length), (6, .slice s.2.2.2.1 s.2.2.2.2.1 s.2.2.2.2.2)])
    (fun s => own 3 s.2.2.2.1 s.2.2.2.2.1 s.2.2.2.2.2 s.2.2.1 :: own 3 (some ⟨bb, 0, none⟩) ss.length ss.length s.1 :: fl13 b0 A1 c1 arcs A2 c2 ss)
    (fun s => s.2.2.2.2.1 = s.2.2.1.length ∧ (∀ t ∈ s.2.2.1, 0 ≤ t) ∧ SkI arcs ss s.1 (s.2.1 ++ s.2.2.1.map Int.toNat) ∧ (∀ v ∈ s.2.1, Clo13 arcs s.1 (nth ss v).xs) ∧ cntU s.1 + s.2.2.1.length ≤ ss.length)
    (fun s => 2 * cntU s.1 + s.2.2.2.2.1) (bs.set (ss.length - 2) (-2), [], [(ss.length : Int) - 2], some ⟨b, 0, none⟩, 1, 1) (by repeat (first | exact trivial | refine ⟨rfl, ?_⟩)) ⟨rfl, by simp; omega, by simpa [hF] using hS0, by simp, hcu⟩ (PSub.eq (by rw [hF])) ?_
  rintro g2 ⟨bs, dn, todo, A4, l4, c4⟩ ⟨j1, j2, j3, j4, j5⟩
  dsimp only at j1 j2 j3 j4 j5 ⊢
  subst j1
  have hbl := j3.len
  (repeat' (first | refine s_move ?_ | refine s_assign ?_ | refine s_nil ?_ | (refine k_C ?_; first | refine s_seq ?_ | refine s_region ?_ | refine s_stillP foI rfl (by kernel_rfl) ?_ | refine s_skip ?_ | refine s_block ?_ | refine s_exit ?_ | refine s_ret ?_ | refine s_ift rfl ?_ | refine s_iff rfl ?_ | (refine s_ifd rfl ?_ ?_ <;> intro hc <;> try (exfalso; omega)) | (refine s_ifn rfl ?_ ?_ <;> intro hc <;> try (exfalso; omega)) | (refine s_if rfl ?_ ?_ <;> intro hc)) | (refine k_E ?_; first | refine e_seq ?_ | refine e_seq_ret ?_ | refine e_seq_exit ?_ | refine e_bk_exit ?_ | refine e_bk_ret ?_ | refine e_bk ?_ | refine e_bk_out rfl ?_ | refine e_lp_ret ?_ | refine e_lp_exit ?_ | refine e_ct_ret ?_ | refine e_ct_exit ?_) | (refine k_load ?_; first | refine s_ldB rfl rfl ?_ | refine s_ldBW rfl rfl ?_ | refine s_ldBA rfl (by decide) ?_ | refine s_ldRB rfl rfl ?_ | refine s_ldRBA rfl (by decide) ?_ | refine s_ld rfl om rfl ?_ | refine s_ldF rfl om rfl ?_ | refine s_ldA rfl om rfl ?_ | refine s_ldFA rfl om (by decide) ?_ | refine s_ldR rfl om rfl ?_ | refine s_ldS rfl rfl om rfl ?_ | refine s_ldSF rfl rfl om rfl ?_ | refine s_ldSA rfl rfl om rfl ?_ | refine s_ldSFA rfl rfl om (by decide) ?_) | (refine k_bin ?_; first | refine s_lss rfl rfl ?_ | refine s_add1 rfl rfl om ?_ | refine s_add64 rfl rfl om ?_ | refine s_sub64 rfl rfl om ?_ | refine s_eql rfl rfl ?_ | refine s_neq rfl rfl ?_ | refine s_gtr rfl rfl ?_ | refine s_geq rfl rfl ?_ | refine s_leq rfl rfl ?_ | refine s_beq rfl rfl ?_ | refine s_pnil rfl rfl ?_ | refine s_snil rfl rfl ?_ | refine s_bne rfl rfl ?_ | refine s_rem rfl rfl om ?_ | refine s_mul64 rfl rfl om ?_ | refine s_xor1 rfl rfl om ?_ | refine s_xor1I rfl rfl om om ?_) | (refine k_fld ?_; first | refine s_fld rfl ?_ | refine s_fldB rfl ?_) | (refine k_idx ?_; first | refine s_idx rfl rfl om ?_ | refine s_idxI rfl rfl om om ?_ | refine s_idxR rfl rfl om ?_ | refine s_idxRI rfl rfl om om ?_ | refine s_idxS rfl rfl om ?_ | refine s_idxSI rfl rfl om om ?_ | refine s_idxV (j := 0) rfl rfl (by decide) ?_ | refine s_idxV rfl rfl (by decide) ?_) | (refine k_store ?_; first | refine s_stW _ rfl rfl ?_ | refine s_st _ rfl rfl om ?_ | refine s_stB _ rfl rfl rfl (by decide) ?_) | (refine k_call ?_; first | refine s_len rfl ?_ | refine s_min rfl rfl ?_ | refine s_max rfl rfl ?_ | (refine s_appS rfl rfl om ?_; intro A c) | (refine s_appO rfl rfl om ?_; intro A c)) | (refine k_guard ?_; first | refine s_on rfl rfl ?_ | refine s_off rfl rfl rfl rfl ?_ | refine s_offU rfl rfl rfl rfl ?_ | (refine s_casesd rfl rfl ?_ ?_ <;> intro hc <;> try (exfalso; omega)) | (refine s_casesn rfl rfl ?_ ?_ <;> intro hc <;> try (exfalso; omega)) | (refine s_cases rfl rfl ?_ ?_ <;> intro hc)) | refine s_func (v1 := []) (v2 := [.pointer _]) rfl rfl ?_ | refine s_func (v1 := []) (v2 := []) rfl rfl ?_ | refine s_putW (yv := true) rfl rfl rfl trivial om ?_ | refine s_putIW (yv := true) rfl rfl rfl trivial om ?_ | refine s_lookW rfl rfl ?_ | refine s_lookSW rfl rfl ?_ | (refine s_alloc ?_; intro b) | (refine s_box _ rfl ?_; intro b) | (refine s_make rfl rfl om ?_; intro b) | (refine s_makeI rfl rfl om om ?_; intro b) | refine s_cutH rfl rfl om om ?_ | (refine s_cutL rfl rfl om ?_; intro A) | refine s_not rfl ?_ | refine s_pick rfl ?_ | refine s_extract rfl rfl ?_ | refine s_nilck rfl ?_ | (refine s_app1 _ (fun _ => rfl) rfl om ?_; intro v A c) | (refine s_app1N _ (fun _ => rfl) rfl (by decide) ?_; intro v A c) | (refine s_mkmapB ?_; intro b) | (refine s_mkmapI ?_; intro b) | (refine s_lit [] rfl (by decide) rfl ?_; intro b) | (refine s_lit [_] rfl (by decide) rfl ?_; intro b) | (refine s_lit [_, _] rfl (by decide) rfl ?_; intro b) | (refine s_lit [_, _, _] rfl (by decide) rfl ?_; intro b)))
  · cases todo with
    | nil => exfalso; simp at hc
    | cons t todo =>
    have ht0 : 0 ≤ nth (t :: todo) 0 := j2 t (by simp)
    have htm : t.toNat ∈ dn ++ (t :: todo).map Int.toNat := by simp
    have htl : (nth (t :: todo) 0) < ss.length := by
      have := ((j3.mem t.toNat).1 htm).1
      have h0 : 0 ≤ t := ht0
      show t < _
      omega
    have hrl := hg.row t.toNat
    (repeat' (first | refine s_move ?_ | refine s_assign ?_ | refine s_nil ?_ | (refine k_C ?_; first | refine s_seq ?_ | refine s_region ?_ | refine s_stillP foI rfl (by kernel_rfl) ?_ | refine s_skip ?_ | refine s_block ?_ | refine s_exit ?_ | refine s_ret ?_ | refine s_ift rfl ?_ | refine s_iff rfl ?_ | (refine s_ifd rfl ?_ ?_ <;> intro hc <;> try (exfalso; omega)) | (refine s_ifn rfl ?_ ?_ <;> intro hc <;> try (exfalso; omega)) | (refine s_if rfl ?_ ?_ <;> intro hc)) | (refine k_E ?_; first | refine e_seq ?_ | refine e_seq_ret ?_ | refine e_seq_exit ?_ | refine e_bk_exit ?_ | refine e_bk_ret ?_ | refine e_bk ?_ | refine e_bk_out rfl ?_ | refine e_lp_ret ?_ | refine e_lp_exit ?_ | refine e_ct_ret ?_ | refine e_ct_exit ?_) | (refine k_load ?_; first | refine s_ldB rfl rfl ?_ | refine s_ldBW rfl rfl ?_ | refine s_ldBA rfl (by decide) ?_ | refine s_ldRB rfl rfl ?_ | refine s_ldRBA rfl (by decide) ?_ | refine s_ld rfl om rfl ?_ | refine s_ldF rfl om rfl ?_ | refine s_ldA rfl om rfl ?_ | refine s_ldFA rfl om (by decide) ?_ | refine s_ldR rfl om rfl ?_ | refine s_ldS rfl rfl om rfl ?_ | refine s_ldSF rfl rfl om rfl ?_ | refine s_ldSA rfl rfl om rfl ?_ | refine s_ldSFA rfl rfl om (by decide) ?_) | (refine k_bin ?_; first | refine s_lss rfl rfl ?_ | refine s_add1 rfl rfl om ?_ | refine s_add64 rfl rfl om ?_ | refine s_sub64 rfl rfl om ?_ | refine s_eql rfl rfl ?_ | refine s_neq rfl rfl ?_ | refine s_gtr rfl rfl ?_ | refine s_geq rfl rfl ?_ | refine s_leq rfl rfl ?_ | refine s_beq rfl rfl ?_ | refine s_pnil rfl rfl ?_ | refine s_snil rfl rfl ?_ | refine s_bne rfl rfl ?_ | refine s_rem rfl rfl om ?_ | refine s_mul64 rfl rfl om ?_ | refine s_xor1 rfl rfl om ?_ | refine s_xor1I rfl rfl om om ?_) | (refine k_fld ?_; first | refine s_fld rfl ?_ | refine s_fldB rfl ?_) | (refine k_idx ?_; first | refine s_idx rfl rfl om ?_ | refine s_idxI rfl rfl om om ?_ | refine s_idxR rfl rfl om ?_ | refine s_idxRI rfl rfl om om ?_ | refine s_idxS rfl rfl om ?_ | refine s_idxSI rfl rfl om om ?_ | refine s_idxV (j := 0) rfl rfl (by decide) ?_ | refine s_idxV rfl rfl (by decide) ?_) | (refine k_store ?_; first | refine s_stW _ rfl rfl ?_ | refine s_st _ rfl rfl om ?_ | refine s_stB _ rfl rfl rfl (by decide) ?_) | (refine k_call ?_; first | refine s_len rfl ?_ | refine s_min rfl rfl ?_ | refine s_max rfl rfl ?_ | (refine s_appS rfl rfl om ?_; intro A c) | (refine s_appO rfl rfl om ?_; intro A c)) | (refine k_guard ?_; first | refine s_on rfl rfl ?_ | refine s_off rfl rfl rfl rfl ?_ | refine s_offU rfl rfl rfl rfl ?_ | (refine s_casesd rfl rfl ?_ ?_ <;> intro hc <;> try (exfalso; omega)) | (refine s_casesn rfl rfl ?_ ?_ <;> intro hc <;> try (exfalso; omega)) | (refine s_cases rfl rfl ?_ ?_ <;> intro hc)) | refine s_func (v1 := []) (v2 := [.pointer _]) rfl rfl ?_ | refine s_func (v1 := []) (v2 := []) rfl rfl ?_ | refine s_putW (yv := true) rfl rfl rfl trivial om ?_ | refine s_putIW (yv := true) rfl rfl rfl trivial om ?_ | refine s_lookW rfl rfl ?_ | refine s_lookSW rfl rfl ?_ | (refine s_alloc ?_; intro b) | (refine s_box _ rfl ?_; intro b) | (refine s_make rfl rfl om ?_; intro b) | (refine s_makeI rfl rfl om om ?_; intro b) | refine s_cutH rfl rfl om om ?_ | (refine s_cutL rfl rfl om ?_; intro A) | refine s_not rfl ?_ | refine s_pick rfl ?_ | refine s_extract rfl rfl ?_ | refine s_nilck rfl ?_ | (refine s_app1 _ (fun _ => rfl) rfl om ?_; intro v A c) | (refine s_app1N _ (fun _ => rfl) rfl (by decide) ?_; intro v A c) | (refine s_mkmapB ?_; intro b) | (refine s_mkmapI ?_; intro b) | (refine s_lit [] rfl (by decide) rfl ?_; intro b) | (refine s_lit [_] rfl (by decide) rfl ?_; intro b) | (refine s_lit [_, _] rfl (by decide) rfl ?_; intro b) | (refine s_lit [_, _, _] rfl (by decide) rfl ?_; intro b)))
    refine s_loop (σ := Nat × List Int × List Int × Option Addr × Nat × Nat) (fun s => [(0, .pointer (some ⟨b0, 0, none⟩)), (3, .slice (some ⟨bb, 0, none⟩) ss.length ss.length), (6, .slice s.2.2.2.1 s.2.2.2.2.1 s.2.2.2.2.2), (51, .slice (nth ss t.toNat).A (nth ss t.toNat).xs.length (nth ss t.toNat).c), (52, .int .i64 (nth ss t.toNat).xs.length), (53, .int .i64 s.1)])
      (fun s => own 3 s.2.2.2.1 s.2.2.2.2.1 s.2.2.2.2.2 s.2.2.1 :: own 3 (some ⟨bb, 0, none⟩) ss.length ss.length s.2.1 :: fl13 b0 A1 c1 arcs A2 c2 ss)
      (fun s => s.1 ≤ (nth ss t.toNat).xs.length ∧ s.2.2.2.2.1 = s.2.2.1.length ∧ (∀ t ∈ s.2.2.1, 0 ≤ t) ∧ SkI arcs ss s.2.1 (dn ++ [t.toNat] ++ s.2.2.1.map Int.toNat) ∧ (∀ v ∈ dn, Clo13 arcs s.2.1 (nth ss v).xs) ∧ Clo13 arcs s.2.1 ((nth ss t.toNat).xs.take s.1) ∧ cntU s.2.1 + s.2.2.1.length = cntU bs + todo.length ∧ cntU s.2.1 ≤ cntU bs)
      (fun s => (nth ss t.toNat).xs.length - s.1) (0, bs, todo, A, (t :: todo).length - 1, c4 - 1) (by repeat (first | exact trivial | refine ⟨rfl, ?_⟩)) ⟨Nat.zero_le _, rfl, fun x hx => j2 x (by simp [hx]), by simpa using j3, j4, fun a ha => by simp at ha, rfl, Nat.le_refl _⟩ PSub.refl ?_
    rintro g3 ⟨j, bs2, todo2, A5, l5, c5⟩ ⟨i1, i2, i3, i4, i5, i6, i7, i9⟩
    dsimp only at i1 i2 i3 i4 i5 i6 i7 i9 ⊢
    subst i2
    have hbl2 := i4.len
    simp only [List.length_cons] at j5
    have i8 : todo2.length ≤ 20000 := by omega
    have ha : j < (nth ss t.toNat).xs.length → 0 ≤ nth (nth ss t.toNat).xs j ∧ nth (nth ss t.toNat).xs j < arcs.length := fun h => hg.mem _ _ (nth_mem h)
    have ha1 : j < (nth ss t.toNat).xs.length → 0 ≤ nth (nth ss t.toNat).xs j := fun h => (ha h).1
    have ha2 : j < (nth ss t.toNat).xs.length → nth (nth ss t.toNat).xs j < arcs.length := fun h => (ha h).2
    have hto1 : j < (nth ss t.toNat).xs.length → 0 ≤ (nth arcs (nth (nth ss t.toNat).xs j).toNat).fTo := fun h => (hg.to _ (by have := ha h; omega)).1
    have hto2 : j < (nth ss t.toNat).xs.length → (nth arcs (nth (nth ss t.toNat).xs j).toNat).fTo < ss.length := fun h => (hg.to _ (by have := ha h; omega)).2
    (repeat' (first | refine s_move ?_ | refine s_assign ?_ | refine s_nil ?_ | (refine k_C ?_; first | refine s_seq ?_ | refine s_region ?_ | refine s_stillP foI rfl (by kernel_rfl) ?_ | refine s_skip ?_ | refine s_block ?_ | refine s_exit ?_ | refine s_ret ?_ | refine s_ift rfl ?_ | refine s_iff rfl ?_ | (refine s_ifd rfl ?_ ?_ <;> intro hc <;> try (exfalso; omega)) | (refine s_ifn rfl ?_ ?_ <;> intro hc <;> try (exfalso; omega)) | (refine s_if rfl ?_ ?_ <;> intro hc)) | (refine k_E ?_; first | refine e_seq ?_ | refine e_seq_ret ?_ | refine e_seq_exit ?_ | refine e_bk_exit ?_ | refine e_bk_ret ?_ | refine e_bk ?_ | refine e_bk_out rfl ?_ | refine e_lp_ret ?_ | refine e_lp_exit ?_ | refine e_ct_ret ?_ | refine e_ct_exit ?_) | (refine k_load ?_; first | refine s_ldB rfl rfl ?_ | refine s_ldBW rfl rfl ?_ | refine s_ldBA rfl (by decide) ?_ | refine s_ldRB rfl rfl ?_ | refine s_ldRBA rfl (by decide) ?_ | refine s_ld rfl om rfl ?_ | refine s_ldF rfl om rfl ?_ | refine s_ldA rfl om rfl ?_ | refine s_ldFA rfl om (by decide) ?_ | refine s_ldR rfl om rfl ?_ | refine s_ldS rfl rfl om rfl ?_ | refine s_ldSF rfl rfl om rfl ?_ | refine s_ldSA rfl rfl om rfl ?_ | refine s_ldSFA rfl rfl om (by decide) ?_) | (refine k_bin ?_; first | refine s_lss rfl rfl ?_ | refine s_add1 rfl rfl om ?_ | refine s_add64 rfl rfl om ?_ | refine s_sub64 rfl rfl om ?_ | refine s_eql rfl rfl ?_ | refine s_neq rfl rfl ?_ | refine s_gtr rfl rfl ?_ | refine s_geq rfl rfl ?_ | refine s_leq rfl rfl ?_ | refine s_beq rfl rfl ?_ | refine s_pnil rfl rfl ?_ | refine s_snil rfl rfl ?_ | refine s_bne rfl rfl ?_ | refine s_rem rfl rfl om ?_ | refine s_mul64 rfl rfl om ?_ | refine s_xor1 rfl rfl om ?_ | refine s_xor1I rfl rfl om om ?_) | (refine k_fld ?_; first | refine s_fld rfl ?_ | refine s_fldB rfl ?_) | (refine k_idx ?_; first | refine s_idx rfl rfl om ?_ | refine s_idxI rfl rfl om om ?_ | refine s_idxR rfl rfl om ?_ | refine s_idxRI rfl rfl om om ?_ | refine s_idxS rfl rfl om ?_ | refine s_idxSI rfl rfl om om ?_ | refine s_idxV (j := 0) rfl rfl (by decide) ?_ | refine s_idxV rfl rfl (by decide) ?_) | (refine k_store ?_; first | refine s_stW _ rfl rfl ?_ | refine s_st _ rfl rfl om ?_ | refine s_stB _ rfl rfl rfl (by decide) ?_) | (refine k_call ?_; first | refine s_len rfl ?_ | refine s_min rfl rfl ?_ | refine s_max rfl rfl ?_ | (refine s_appS rfl rfl om ?_; intro A c) | (refine s_appO rfl rfl om ?_; intro A c)) | (refine k_guard ?_; first | refine s_on rfl rfl ?_ | refine s_off rfl rfl rfl rfl ?_ | refine s_offU rfl rfl rfl rfl ?_ | (refine s_casesd rfl rfl ?_ ?_ <;> intro hc <;> try (exfalso; omega)) | (refine s_casesn rfl rfl ?_ ?_ <;> intro hc <;> try (exfalso; omega)) | (refine s_cases rfl rfl ?_ ?_ <;> intro hc)) | refine s_func (v1 := []) (v2 := [.pointer _]) rfl rfl ?_ | refine s_func (v1 := []) (v2 := []) rfl rfl ?_ | refine s_putW (yv := true) rfl rfl rfl trivial om ?_ | refine s_putIW (yv := true) rfl rfl rfl trivial om ?_ | refine s_lookW rfl rfl ?_ | refine s_lookSW rfl rfl ?_ | (refine s_alloc ?_; intro b) | (refine s_box _ rfl ?_; intro b) | (refine s_make rfl rfl om ?_; intro b) | (refine s_makeI rfl rfl om om ?_; intro b) | refine s_cutH rfl rfl om om ?_ | (refine s_cutL rfl rfl om ?_; intro A) | refine s_not rfl ?_ | refine s_pick rfl ?_ | refine s_extract rfl rfl ?_ | refine s_nilck rfl ?_ | (refine s_app1 _ (fun _ => rfl) rfl om ?_; intro v A c) | (refine s_app1N _ (fun _ => rfl) rfl (by decide) ?_; intro v A c) | (refine s_mkmapB ?_; intro b) | (refine s_mkmapI ?_; intro b) | (refine s_lit [] rfl (by decide) rfl ?_; intro b) | (refine s_lit [_] rfl (by decide) rfl ?_; intro b) | (refine s_lit [_, _] rfl (by decide) rfl ?_; intro b) | (refine s_lit [_, _, _] rfl (by decide) rfl ?_; intro b)))
    · have hj : j < (nth ss t.toNat).xs.length := by omega
      have hA := ha hj
      have hT := hg.to (nth (nth ss t.toNat).xs j).toNat (by omega)
      have hAe : ((nth (nth ss t.toNat).xs j).toNat : Int) = nth (nth ss t.toNat).xs j := Int.toNat_of_nonneg hA.1
      have hst := i4.step (v := t.toNat) (k := (nth (nth ss t.toNat).xs j).toNat) (u := (nth arcs (nth (nth ss t.toNat).xs j).toNat).fTo.toNat) (by simp) (by rw [hAe]; exact nth_mem hj) (by omega) (by assumption) (by omega) (by omega) hc hn2
      rw [hAe] at hst
      have hub : (nth arcs (nth (nth ss t.toNat).xs j).toNat).fTo.toNat < bs2.length := by omega
      have hcs := cntU_set (k := nth (nth ss t.toNat).xs j) hub hc (by omega)
      refine e_lp (j + 1, bs2.set (nth arcs (nth (nth ss t.toNat).xs j).toNat).fTo.toNat (nth (nth ss t.toNat).xs j), todo2 ++ [(nth arcs (nth (nth ss t.toNat).xs j).toNat).fTo], A, todo2.length + 1, c) (by repeat (first | exact trivial | refine ⟨rfl, ?_⟩)) ⟨by show j + 1 ≤ _; omega, by simp, fun x hx => ?_, ?_, fun v hv => (i5 v hv).mono (by omega) hub, fun a ha' hl => ?_, ?_, ?_⟩ (by show _ - _ < _ - _; omega) (PSub.take [1, 1, 1, 1, 1, 1] rfl)
      · rcases List.mem_append.1 hx with hx | hx
        · exact i3 x hx
        · rw [List.mem_singleton] at hx; rw [hx]; exact hT.1
      · show SkI arcs ss _ (dn ++ [t.toNat] ++ (todo2 ++ [(nth arcs (nth (nth ss t.toNat).xs j).toNat).fTo]).map Int.toNat)
        rw [List.map_append, ← List.append_assoc]; exact hst
      · rw [← takeN hj] at ha'
        rcases List.mem_append.1 ha' with h | h
        · exact i6.mono (by omega) hub a h hl
        · rw [List.mem_singleton] at h
          subst h
          rw [nth_set hub, if_pos rfl]; omega
      · show cntU (bs2.set (nth arcs (nth (nth ss t.toNat).xs j).toNat).fTo.toNat (nth (nth ss t.toNat).xs j)) + (todo2 ++ [_]).length = _
        rw [List.length_append, List.length_singleton]; omega
      · show cntU (bs2.set (nth arcs (nth (nth ss t.toNat).xs j).toNat).fTo.toNat (nth (nth ss t.toNat).xs j)) ≤ _
        omega
    · have hj : j < (nth ss t.toNat).xs.length := by omega
      refine e_lp (j + 1, bs2, todo2, A5, todo2.length, c5) (by repeat (first | exact trivial | refine ⟨rfl, ?_⟩)) ⟨by show j + 1 ≤ _; omega, rfl, i3, i4, i5, fun a ha' hl => ?_, i7, i9⟩ (by show _ - _ < _ - _; omega) (PSub.take [1, 1, 1, 1, 1, 1] rfl)
      rw [← takeN hj] at ha'
      rcases List.mem_append.1 ha' with h | h
      · exact i6 a h hl
      · rw [List.mem_singleton] at h
        subst h
        exact hc
    · have hj : j < (nth ss t.toNat).xs.length := by omega
      refine e_lp (j + 1, bs2, todo2, A5, todo2.length, c5) (by repeat (first | exact trivial | refine ⟨rfl, ?_⟩)) ⟨by show j + 1 ≤ _; omega, rfl, i3, i4, i5, fun a ha' hl => ?_, i7, i9⟩ (by show _ - _ < _ - _; omega) (PSub.take [1, 1, 1, 1, 1, 1] rfl)
      rw [← takeN hj] at ha'
      rcases List.mem_append.1 ha' with h | h
      · exact i6 a h hl
      · rw [List.mem_singleton] at h
        subst h
        exact absurd hl (by assumption)
    · have hj' : j = (nth ss t.toNat).xs.length := by omega
      subst hj'
      rw [List.take_length] at i6
      refine e_lp (bs2, dn ++ [t.toNat], todo2, A5, todo2.length, c5) (by repeat (first | exact trivial | refine ⟨rfl, ?_⟩)) ⟨rfl, i3, i4, fun v hv => ?_, by show cntU bs2 + todo2.length ≤ _; omega⟩ (by show 2 * cntU bs2 + todo2.length < 2 * cntU bs + (todo.length + 1); omega) PSub.refl
      rcases List.mem_append.1 hv with h | h
      · exact i5 v h
      · rw [List.mem_singleton] at h
        subst h; exact i6
  · have h0 : todo = [] := List.eq_nil_of_length_eq_zero (by omega)
    subst h0
    refine e_done rfl rfl _ (PSub.take [1, 1, 1, 1, 1] rfl) ⟨_, bs, rfl, ⟨dn, by simpa using j3, j4⟩, rfl⟩
end Go.Proofs.Ytmmjecopcjkeaaa
