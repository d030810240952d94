/- Least: the lightest cut. -/
import Derived.Test.YtmmjecopcjkeaaaC5
import Derived.Test.YtmmjecopcjkeaaaC6
namespace Go.Proofs.Ytmmjecopcjkeaaa
set_option linter.unusedVariables false
set_option linter.unusedSimpArgs false
open Go Go.RowKit

theorem Nt.E_lt {n : Nt} (hn : n.Ok) {i : Nat} (h : i < n.E.length) : n.E[i].u < 2 * n.ws.length + 2 ∧ n.E[i].v < 2 * n.ws.length + 2 ∧ n.E[i].c ≤ much13 := by
  by_cases hi : i < n.ws.length
  · rw [Nt.E_nd hi h]
    have := (hn.w _ (List.getElem_mem hi)).2
    unfold much13
    dsimp only
    omega
  · obtain ⟨h2, e⟩ := Nt.E_wy' (n := n) (by omega) h
    obtain ⟨hc, hk⟩ := wyE_cases hn (List.getElem_mem h2)
    rw [← e] at hc hk
    rw [hc]
    rcases hk with ⟨p, hp, e1, e2⟩ | ⟨v, hv, e1, e2⟩ | ⟨v, hv, e1, e2⟩
    · have := hn.wy p hp
      omega
    · have := hn.fr v hv
      omega
    · have := hn.to v hv
      omega
theorem gr13 {n : CutNet} {f : List Int} {ss : List (Sl Int)} (hn : (ntOf n).Ok) (hf : FewN n) (hl : f.length = (ntOf n).E.length) (ha : Adj (ntOf n).E (2 * n.fWeights.xs.length + 2) ss) : Gr (arcsOf (ntOf n).E f) ss := by
  have hal := arcsOf_len hl
  have hE : (ntOf n).E.length ≤ 32000 := by
    rw [← P3_all]
    have := P3_len (n := n) (i := n.fTo.xs.length)
    have := hf.w
    have := hf.wy
    have := hf.fr
    have := hf.to
    omega
  have hw := hf.w
  refine ⟨by rw [ha.len]; omega, by rw [ha.len]; omega, by omega, fun v => by have := ha.row v; omega, fun v a hm => ?_, fun k hk => ?_⟩
  · obtain ⟨i, hi, h | h⟩ := (ha.mem v a).1 hm <;> omega
  · rw [hal] at hk
    have hi : k / 2 < (ntOf n).E.length := by omega
    have hg := arcsOf_get (E := (ntOf n).E) (f := f) hi (by omega)
    have hlt := Nt.E_lt hn hi
    have hws : (ntOf n).ws.length = n.fWeights.xs.length := rfl
    rw [ha.len]
    rcases Nat.mod_two_eq_zero_or_one k with h | h
    · have e : k = 2 * (k / 2) := by omega
      rw [e, hg.1]
      dsimp only
      omega
    · have e : k = 2 * (k / 2) + 1 := by omega
      rw [e, hg.2]
      dsimp only
      omega
theorem seek_wf {arcs : List CutArc} {ss : List (Sl Int)} {bs : List Int} (hs : Seek arcs ss bs) (hm : arcs.length ≤ 100000) {x : Int} (hx : x ∈ bs) : wfi x := by
  obtain ⟨ord, hI, _⟩ := hs
  obtain ⟨v, hv, rfl⟩ := List.mem_iff_getElem.1 hx
  rw [← nth_get hv]
  have hb : -2 ≤ nth bs v ∧ nth bs v ≤ 100000 := by
    by_cases h1 : nth bs v = -1
    · omega
    · have hmem := (hI.mem v).2 ⟨by rw [← hI.len]; exact hv, h1⟩
      rcases hI.par v hmem with h | ⟨k, h, h2, _⟩
      · rw [h, hI.fst]; omega
      · omega
  exact ⟨by omega, by omega⟩
def lst13 (n : CutNet) (C : Nat → Bool) : List Int := ((List.range n.fWeights.xs.length).filter C).map fun v : Nat => (v : Int)
/-- The cut by where seek comes to. -/
def cutOf (bs : List Int) (v : Nat) : Bool := decide (nth bs (2 * v) ≠ -1) && decide (nth bs (2 * v + 1) = -1)
theorem done13 {n : CutNet} {f : List Int} {val : Int} {ss : List (Sl Int)} {bs : List Int} (hn : (ntOf n).Ok) (hf : FewN n) (hfl : Flows (ntOf n) f val) (ha : Adj (ntOf n).E (2 * n.fWeights.xs.length + 2) ss) (hs : Seek (arcsOf (ntOf n).E f) ss bs) (hl : nth bs (2 * n.fWeights.xs.length + 1) = -1) :
    Cut (ntOf n) (cutOf bs) ∧ wgt 0 n.fWeights.xs (cutOf bs) = val := by
  obtain ⟨ord, hI, hcl⟩ := hs
  have hN := ha.len
  have hws : (ntOf n).ws.length = n.fWeights.xs.length := rfl
  have hfs := hI.fst
  rw [hN] at hfs
  refine Flows.done (R := fun v => v < ss.length ∧ nth bs v ≠ -1) hn hfl ⟨by omega, ?_⟩ (fun h => h.2 hl) (fun i h1 h2 hu hlt => ?_) (fun i h1 h2 hv hlt => ?_) fun v hv => ?_
  · show nth bs (2 * n.fWeights.xs.length) ≠ -1
    have : 2 * n.fWeights.xs.length + 2 - 2 = 2 * n.fWeights.xs.length := by omega
    rw [this] at hfs
    rw [hfs]; omega
  · have hg := arcsOf_get (E := (ntOf n).E) (f := f) h2 h1
    have hm : ((2 * i : Nat) : Int) ∈ (nth ss (ntOf n).E[i].u).xs := (ha.mem _ _).2 ⟨i, h2, .inl ⟨by omega, rfl⟩⟩
    have := hcl _ ((hI.mem _).2 hu) _ hm
    rw [Int.toNat_natCast, hg.1] at this
    dsimp only at this
    have hlt' := Nt.E_lt hn h2
    exact ⟨by omega, by simpa using this (by omega)⟩
  · have hg := arcsOf_get (E := (ntOf n).E) (f := f) h2 h1
    have hm : ((2 * i + 1 : Nat) : Int) ∈ (nth ss (ntOf n).E[i].v).xs := (ha.mem _ _).2 ⟨i, h2, .inr ⟨by omega, rfl⟩⟩
    have := hcl _ ((hI.mem _).2 hv) _ hm
    rw [Int.toNat_natCast, hg.2] at this
    dsimp only at this
    have hlt' := Nt.E_lt hn h2
    exact ⟨by omega, by simpa using this hlt⟩
  · unfold cutOf
    simp only [Bool.and_eq_true, decide_eq_true_eq]
    constructor
    · rintro ⟨h1, h2⟩
      exact ⟨⟨by omega, h1⟩, fun h => h.2 h2⟩
    · rintro ⟨h1, h2⟩
      refine ⟨h1.2, Classical.byContradiction fun h => h2 ⟨by omega, h⟩⟩
theorem lst13_take {C : Nat → Bool} {i : Nat} : ((List.range (i + 1)).filter C).map (fun v : Nat => (v : Int)) = ((List.range i).filter C).map (fun v : Nat => (v : Int)) ++ (if C i = true then [(i : Int)] else []) := by
  rw [List.range_succ, List.filter_append, List.map_append]
  congr 1
  by_cases h : C i = true <;> simp [h]
set_option maxHeartbeats 4000000 in
theorem least13_spec (n : CutNet) (hr : FewR n) (hwy : n.fWays.xs.length ≤ 10000) : Spec Try.prog 11 [.agg (Enc.enc n).toArray] [] (fun ok w => RdD ok w n)
      fun r L' => (rightN n = false → r = .tuple #[.slice none 0 0, .bool false] ∧ L' = []) ∧ (rightN n = true → ∃ A c C, r = .tuple #[.slice A (lst13 n C).length c, .bool true] ∧ L' = [own 3 A (lst13 n C).length c (lst13 n C)] ∧ Cut (ntOf n) C ∧ ∀ D, Cut (ntOf n) D → wgt 0 n.fWeights.xs C ≤ wgt 0 n.fWeights.xs D) := by
  refine spec_of Try.func11 rfl rfl fun w0 f0 hR => ?_
  (repeat' (first | refine s_move ?_ | refine s_assign ?_ | refine s_nil ?_ | (refine k_C ?_; first | refine s_seq ?_ | refine s_region ?_ | refine s_stillP foI rfl (by kernel_rfl) ?_ | refine s_skip ?_ | refine s_block ?_ | refine s_exit ?_ | refine s_ret ?_ | refine s_ift rfl ?_ | refine s_iff rfl ?_ | (refine s_ifd rfl ?_ ?_ <;> intro hc <;> try (exfalso; omega)) | (refine s_ifn rfl ?_ ?_ <;> intro hc <;> try (exfalso; omega)) | (refine s_if rfl ?_ ?_ <;> intro hc)) | (refine k_E ?_; first | refine e_seq ?_ | refine e_seq_ret ?_ | refine e_seq_exit ?_ | refine e_bk_exit ?_ | refine e_bk_ret ?_ | refine e_bk ?_ | refine e_bk_out rfl ?_ | refine e_lp_ret ?_ | refine e_lp_exit ?_ | refine e_ct_ret ?_ | refine e_ct_exit ?_) | (refine k_load ?_; first | refine s_ldB rfl rfl ?_ | refine s_ldBW rfl rfl ?_ | refine s_ldBA rfl (by decide) ?_ | refine s_ldRB rfl rfl ?_ | refine s_ldRBA rfl (by decide) ?_ | refine s_ld rfl om rfl ?_ | refine s_ldF rfl om rfl ?_ | refine s_ldA rfl om rfl ?_ | refine s_ldFA rfl om (by decide) ?_ | refine s_ldR rfl om rfl ?_ | refine s_ldS rfl rfl om rfl ?_ | refine s_ldSF rfl rfl om rfl ?_ | refine s_ldSA rfl rfl om rfl ?_ | refine s_ldSFA rfl rfl om (by decide) ?_) | (refine k_bin ?_; first | refine s_lss rfl rfl ?_ | refine s_add1 rfl rfl om ?_ | refine s_add64 rfl rfl om ?_ | refine s_sub64 rfl rfl om ?_ | refine s_eql rfl rfl ?_ | refine s_neq rfl rfl ?_ | refine s_gtr rfl rfl ?_ | refine s_geq rfl rfl ?_ | refine s_leq rfl rfl ?_ | refine s_beq rfl rfl ?_ | refine s_pnil rfl rfl ?_ | refine s_snil rfl rfl ?_ | refine s_bne rfl rfl ?_ | refine s_rem rfl rfl om ?_ | refine s_mul64 rfl rfl om ?_ | refine s_xor1 rfl rfl om ?_ | refine s_xor1I rfl rfl om om ?_) | (refine k_fld ?_; first | refine s_fld rfl ?_ | refine s_fldB rfl ?_) | (refine k_idx ?_; first | refine s_idx rfl rfl om ?_ | refine s_idxI rfl rfl om om ?_ | refine s_idxR rfl rfl om ?_ | refine s_idxRI rfl rfl om om ?_ | refine s_idxS rfl rfl om ?_ | refine s_idxSI rfl rfl om om ?_ | refine s_idxV (j := 0) rfl rfl (by decide) ?_ | refine s_idxV rfl rfl (by decide) ?_) | (refine k_store ?_; first | refine s_stW _ rfl rfl ?_ | refine s_st _ rfl rfl om ?_ | refine s_stB _ rfl rfl rfl (by decide) ?_) | (refine k_call ?_; first | refine s_len rfl ?_ | refine s_cap rfl ?_ | refine s_min rfl rfl ?_ | refine s_max rfl rfl ?_ | (refine s_appS rfl rfl om ?_; intro A c) | (refine s_appO rfl rfl om ?_; intro A c)) | (refine k_guard ?_; first | refine s_on rfl rfl ?_ | refine s_off rfl rfl rfl rfl ?_ | refine s_offU rfl rfl rfl rfl ?_ | (refine s_casesd rfl rfl ?_ ?_ <;> intro hc <;> try (exfalso; omega)) | (refine s_casesn rfl rfl ?_ ?_ <;> intro hc <;> try (exfalso; omega)) | (refine s_cases rfl rfl ?_ ?_ <;> intro hc)) | refine s_func (v1 := []) (v2 := [.pointer _]) rfl rfl ?_ | refine s_func (v1 := []) (v2 := []) rfl rfl ?_ | refine s_putW (yv := true) rfl rfl rfl trivial om ?_ | refine s_putIW (yv := true) rfl rfl rfl trivial om ?_ | refine s_lookW rfl rfl ?_ | refine s_lookSW rfl rfl ?_ | (refine s_alloc ?_; intro b) | (refine s_box _ rfl ?_; intro b) | (refine s_make rfl rfl om ?_; intro b) | (refine s_makeI rfl rfl om om ?_; intro b) | refine s_cutH rfl rfl om om ?_ | (refine s_cutL rfl rfl om ?_; intro A) | refine s_not rfl ?_ | refine s_pick rfl ?_ | refine s_extract rfl rfl ?_ | refine s_nilck rfl ?_ | (refine s_app1 _ (fun _ => rfl) rfl om ?_; intro v A c) | (refine s_app1N _ (fun _ => rfl) rfl (by decide) ?_; intro v A c) | (refine s_mkmapB ?_; intro b) | (refine s_mkmapI ?_; intro b) | (refine s_lit [] rfl (by decide) rfl ?_; intro b) | (refine s_lit [_] rfl (by decide) rfl ?_; intro b) | (refine s_lit [_, _] rfl (by decide) rfl ?_; intro b) | (refine s_lit [_, _, _] rfl (by decide) rfl ?_; intro b)))
  refine s_call0 (right13_spec n hr) rfl (fun w1 H => H.rdD hR) ?_
  rintro v L' ⟨rfl, rfl⟩
  (repeat' (first | refine s_move ?_ | refine s_assign ?_ | refine s_nil ?_ | (refine k_C ?_; first | refine s_seq ?_ | refine s_region ?_ | refine s_stillP foI rfl (by kernel_rfl) ?_ | refine s_skip ?_ | refine s_block ?_ | refine s_exit ?_ | refine s_ret ?_ | refine s_ift rfl ?_ | refine s_iff rfl ?_ | (refine s_ifd rfl ?_ ?_ <;> intro hc <;> try (exfalso; omega)) | (refine s_ifn rfl ?_ ?_ <;> intro hc <;> try (exfalso; omega)) | (refine s_if rfl ?_ ?_ <;> intro hc)) | (refine k_E ?_; first | refine e_seq ?_ | refine e_seq_ret ?_ | refine e_seq_exit ?_ | refine e_bk_exit ?_ | refine e_bk_ret ?_ | refine e_bk ?_ | refine e_bk_out rfl ?_ | refine e_lp_ret ?_ | refine e_lp_exit ?_ | refine e_ct_ret ?_ | refine e_ct_exit ?_) | (refine k_load ?_; first | refine s_ldB rfl rfl ?_ | refine s_ldBW rfl rfl ?_ | refine s_ldBA rfl (by decide) ?_ | refine s_ldRB rfl rfl ?_ | refine s_ldRBA rfl (by decide) ?_ | refine s_ld rfl om rfl ?_ | refine s_ldF rfl om rfl ?_ | refine s_ldA rfl om rfl ?_ | refine s_ldFA rfl om (by decide) ?_ | refine s_ldR rfl om rfl ?_ | refine s_ldS rfl rfl om rfl ?_ | refine s_ldSF rfl rfl om rfl ?_ | refine s_ldSA rfl rfl om rfl ?_ | refine s_ldSFA rfl rfl om (by decide) ?_) | (refine k_bin ?_; first | refine s_lss rfl rfl ?_ | refine s_add1 rfl rfl om ?_ | refine s_add64 rfl rfl om ?_ | refine s_sub64 rfl rfl om ?_ | refine s_eql rfl rfl ?_ | refine s_neq rfl rfl ?_ | refine s_gtr rfl rfl ?_ | refine s_geq rfl rfl ?_ | refine s_leq rfl rfl ?_ | refine s_beq rfl rfl ?_ | refine s_pnil rfl rfl ?_ | refine s_snil rfl rfl ?_ | refine s_bne rfl rfl ?_ | refine s_rem rfl rfl om ?_ | refine s_mul64 rfl rfl om ?_ | refine s_xor1 rfl rfl om ?_ | refine s_xor1I rfl rfl om om ?_) | (refine k_fld ?_; first | refine s_fld rfl ?_ | refine s_fldB rfl ?_) | (refine k_idx ?_; first | refine s_idx rfl rfl om ?_ | refine s_idxI rfl rfl om om ?_ | refine s_idxR rfl rfl om ?_ | refine s_idxRI rfl rfl om om ?_ | refine s_idxS rfl rfl om ?_ | refine s_idxSI rfl rfl om om ?_ | refine s_idxV (j := 0) rfl rfl (by decide) ?_ | refine s_idxV rfl rfl (by decide) ?_) | (refine k_store ?_; first | refine s_stW _ rfl rfl ?_ | refine s_st _ rfl rfl om ?_ | refine s_stB _ rfl rfl rfl (by decide) ?_) | (refine k_call ?_; first | refine s_len rfl ?_ | refine s_cap rfl ?_ | refine s_min rfl rfl ?_ | refine s_max rfl rfl ?_ | (refine s_appS rfl rfl om ?_; intro A c) | (refine s_appO rfl rfl om ?_; intro A c)) | (refine k_guard ?_; first | refine s_on rfl rfl ?_ | refine s_off rfl rfl rfl rfl ?_ | refine s_offU rfl rfl rfl rfl ?_ | (refine s_casesd rfl rfl ?_ ?_ <;> intro hc <;> try (exfalso; omega)) | (refine s_casesn rfl rfl ?_ ?_ <;> intro hc <;> try (exfalso; omega)) | (refine s_cases rfl rfl ?_ ?_ <;> intro hc)) | refine s_func (v1 := []) (v2 := [.pointer _]) rfl rfl ?_ | refine s_func (v1 := []) (v2 := []) rfl rfl ?_ | refine s_putW (yv := true) rfl rfl rfl trivial om ?_ | refine s_putIW (yv := true) rfl rfl rfl trivial om ?_ | refine s_lookW rfl rfl ?_ | refine s_lookSW rfl rfl ?_ | (refine s_alloc ?_; intro b) | (refine s_box _ rfl ?_; intro b) | (refine s_make rfl rfl om ?_; intro b) | (refine s_makeI rfl rfl om om ?_; intro b) | refine s_cutH rfl rfl om om ?_ | (refine s_cutL rfl rfl om ?_; intro A) | refine s_not rfl ?_ | refine s_pick rfl ?_ | refine s_extract rfl rfl ?_ | refine s_nilck rfl ?_ | (refine s_app1 _ (fun _ => rfl) rfl om ?_; intro v A c) | (refine s_app1N _ (fun _ => rfl) rfl (by decide) ?_; intro v A c) | (refine s_mkmapB ?_; intro b) | (refine s_mkmapI ?_; intro b) | (refine s_lit [] rfl (by decide) rfl ?_; intro b) | (refine s_lit [_] rfl (by decide) rfl ?_; intro b) | (refine s_lit [_, _] rfl (by decide) rfl ?_; intro b) | (refine s_lit [_, _, _] rfl (by decide) rfl ?_; intro b)))
  · have hc : rightN n = false := by simpa using hc
    refine e_done2 rfl rfl rfl _ (PSub.take [] rfl) ⟨fun _ => ⟨rfl, rfl⟩, fun h => ?_⟩
    rw [hc] at h; cases h
  have hright : rightN n = true := by simpa using hc
  obtain ⟨hin, hn⟩ := rightN_ok hright
  have hf : FewN n := ⟨hn.l, hwy, hr.fr, hr.to⟩
  have hwl := hf.w
  refine s_call0 (make13_spec n hf hin) rfl (fun w1 H => H.rdD hR) ?_
  rintro v L' ⟨bf, A1, c1, A2, c2, ss, rfl, hadj, rfl⟩
  have hN := hadj.len
  (repeat' (first | refine s_move ?_ | refine s_assign ?_ | refine s_nil ?_ | (refine k_C ?_; first | refine s_seq ?_ | refine s_region ?_ | refine s_stillP foI rfl (by kernel_rfl) ?_ | refine s_skip ?_ | refine s_block ?_ | refine s_exit ?_ | refine s_ret ?_ | refine s_ift rfl ?_ | refine s_iff rfl ?_ | (refine s_ifd rfl ?_ ?_ <;> intro hc <;> try (exfalso; omega)) | (refine s_ifn rfl ?_ ?_ <;> intro hc <;> try (exfalso; omega)) | (refine s_if rfl ?_ ?_ <;> intro hc)) | (refine k_E ?_; first | refine e_seq ?_ | refine e_seq_ret ?_ | refine e_seq_exit ?_ | refine e_bk_exit ?_ | refine e_bk_ret ?_ | refine e_bk ?_ | refine e_bk_out rfl ?_ | refine e_lp_ret ?_ | refine e_lp_exit ?_ | refine e_ct_ret ?_ | refine e_ct_exit ?_) | (refine k_load ?_; first | refine s_ldB rfl rfl ?_ | refine s_ldBW rfl rfl ?_ | refine s_ldBA rfl (by decide) ?_ | refine s_ldRB rfl rfl ?_ | refine s_ldRBA rfl (by decide) ?_ | refine s_ld rfl om rfl ?_ | refine s_ldF rfl om rfl ?_ | refine s_ldA rfl om rfl ?_ | refine s_ldFA rfl om (by decide) ?_ | refine s_ldR rfl om rfl ?_ | refine s_ldS rfl rfl om rfl ?_ | refine s_ldSF rfl rfl om rfl ?_ | refine s_ldSA rfl rfl om rfl ?_ | refine s_ldSFA rfl rfl om (by decide) ?_) | (refine k_bin ?_; first | refine s_lss rfl rfl ?_ | refine s_add1 rfl rfl om ?_ | refine s_add64 rfl rfl om ?_ | refine s_sub64 rfl rfl om ?_ | refine s_eql rfl rfl ?_ | refine s_neq rfl rfl ?_ | refine s_gtr rfl rfl ?_ | refine s_geq rfl rfl ?_ | refine s_leq rfl rfl ?_ | refine s_beq rfl rfl ?_ | refine s_pnil rfl rfl ?_ | refine s_snil rfl rfl ?_ | refine s_bne rfl rfl ?_ | refine s_rem rfl rfl om ?_ | refine s_mul64 rfl rfl om ?_ | refine s_xor1 rfl rfl om ?_ | refine s_xor1I rfl rfl om om ?_) | (refine k_fld ?_; first | refine s_fld rfl ?_ | refine s_fldB rfl ?_) | (refine k_idx ?_; first | refine s_idx rfl rfl om ?_ | refine s_idxI rfl rfl om om ?_ | refine s_idxR rfl rfl om ?_ | refine s_idxRI rfl rfl om om ?_ | refine s_idxS rfl rfl om ?_ | refine s_idxSI rfl rfl om om ?_ | refine s_idxV (j := 0) rfl rfl (by decide) ?_ | refine s_idxV rfl rfl (by decide) ?_) | (refine k_store ?_; first | refine s_stW _ rfl rfl ?_ | refine s_st _ rfl rfl om ?_ | refine s_stB _ rfl rfl rfl (by decide) ?_) | (refine k_call ?_; first | refine s_len rfl ?_ | refine s_cap rfl ?_ | refine s_min rfl rfl ?_ | refine s_max rfl rfl ?_ | (refine s_appS rfl rfl om ?_; intro A c) | (refine s_appO rfl rfl om ?_; intro A c)) | (refine k_guard ?_; first | refine s_on rfl rfl ?_ | refine s_off rfl rfl rfl rfl ?_ | refine s_offU rfl rfl rfl rfl ?_ | (refine s_casesd rfl rfl ?_ ?_ <;> intro hc <;> try (exfalso; omega)) | (refine s_casesn rfl rfl ?_ ?_ <;> intro hc <;> try (exfalso; omega)) | (refine s_cases rfl rfl ?_ ?_ <;> intro hc)) | refine s_func (v1 := []) (v2 := [.pointer _]) rfl rfl ?_ | refine s_func (v1 := []) (v2 := []) rfl rfl ?_ | refine s_putW (yv := true) rfl rfl rfl trivial om ?_ | refine s_putIW (yv := true) rfl rfl rfl trivial om ?_ | refine s_lookW rfl rfl ?_ | refine s_lookSW rfl rfl ?_ | (refine s_alloc ?_; intro b) | (refine s_box _ rfl ?_; intro b) | (refine s_make rfl rfl om ?_; intro b) | (refine s_makeI rfl rfl om om ?_; intro b) | refine s_cutH rfl rfl om om ?_ | (refine s_cutL rfl rfl om ?_; intro A) | refine s_not rfl ?_ | refine s_pick rfl ?_ | refine s_extract rfl rfl ?_ | refine s_nilck rfl ?_ | (refine s_app1 _ (fun _ => rfl) rfl om ?_; intro v A c) | (refine s_app1N _ (fun _ => rfl) rfl (by decide) ?_; intro v A c) | (refine s_mkmapB ?_; intro b) | (refine s_mkmapI ?_; intro b) | (refine s_lit [] rfl (by decide) rfl ?_; intro b) | (refine s_lit [_] rfl (by decide) rfl ?_; intro b) | (refine s_lit [_, _] rfl (by decide) rfl ?_; intro b) | (refine s_lit [_, _, _] rfl (by decide) rfl ?_; intro b)))
  have hg0 : Gr (arcs0 (ntOf n).E) ss := gr13 hn hf (by simp) hadj
  refine s_call [0, 0, 0, 0] (seek13_spec bf A1 c1 (arcs0 (ntOf n).E) A2 c2 ss hg0) rfl rfl (fun _ _ _ => trivial) ?_
  rintro v L' ⟨A, bs, rfl, hseek, rfl⟩
  (repeat' (first | refine s_move ?_ | refine s_assign ?_ | refine s_nil ?_ | (refine k_C ?_; first | refine s_seq ?_ | refine s_region ?_ | refine s_stillP foI rfl (by kernel_rfl) ?_ | refine s_skip ?_ | refine s_block ?_ | refine s_exit ?_ | refine s_ret ?_ | refine s_ift rfl ?_ | refine s_iff rfl ?_ | (refine s_ifd rfl ?_ ?_ <;> intro hc <;> try (exfalso; omega)) | (refine s_ifn rfl ?_ ?_ <;> intro hc <;> try (exfalso; omega)) | (refine s_if rfl ?_ ?_ <;> intro hc)) | (refine k_E ?_; first | refine e_seq ?_ | refine e_seq_ret ?_ | refine e_seq_exit ?_ | refine e_bk_exit ?_ | refine e_bk_ret ?_ | refine e_bk ?_ | refine e_bk_out rfl ?_ | refine e_lp_ret ?_ | refine e_lp_exit ?_ | refine e_ct_ret ?_ | refine e_ct_exit ?_) | (refine k_load ?_; first | refine s_ldB rfl rfl ?_ | refine s_ldBW rfl rfl ?_ | refine s_ldBA rfl (by decide) ?_ | refine s_ldRB rfl rfl ?_ | refine s_ldRBA rfl (by decide) ?_ | refine s_ld rfl om rfl ?_ | refine s_ldF rfl om rfl ?_ | refine s_ldA rfl om rfl ?_ | refine s_ldFA rfl om (by decide) ?_ | refine s_ldR rfl om rfl ?_ | refine s_ldS rfl rfl om rfl ?_ | refine s_ldSF rfl rfl om rfl ?_ | refine s_ldSA rfl rfl om rfl ?_ | refine s_ldSFA rfl rfl om (by decide) ?_) | (refine k_bin ?_; first | refine s_lss rfl rfl ?_ | refine s_add1 rfl rfl om ?_ | refine s_add64 rfl rfl om ?_ | refine s_sub64 rfl rfl om ?_ | refine s_eql rfl rfl ?_ | refine s_neq rfl rfl ?_ | refine s_gtr rfl rfl ?_ | refine s_geq rfl rfl ?_ | refine s_leq rfl rfl ?_ | refine s_beq rfl rfl ?_ | refine s_pnil rfl rfl ?_ | refine s_snil rfl rfl ?_ | refine s_bne rfl rfl ?_ | refine s_rem rfl rfl om ?_ | refine s_mul64 rfl rfl om ?_ | refine s_xor1 rfl rfl om ?_ | refine s_xor1I rfl rfl om om ?_) | (refine k_fld ?_; first | refine s_fld rfl ?_ | refine s_fldB rfl ?_) | (refine k_idx ?_; first | refine s_idx rfl rfl om ?_ | refine s_idxI rfl rfl om om ?_ | refine s_idxR rfl rfl om ?_ | refine s_idxRI rfl rfl om om ?_ | refine s_idxS rfl rfl om ?_ | refine s_idxSI rfl rfl om om ?_ | refine s_idxV (j := 0) rfl rfl (by decide) ?_ | refine s_idxV rfl rfl (by decide) ?_) | (refine k_store ?_; first | refine s_stW _ rfl rfl ?_ | refine s_st _ rfl rfl om ?_ | refine s_stB _ rfl rfl rfl (by decide) ?_) | (refine k_call ?_; first | refine s_len rfl ?_ | refine s_cap rfl ?_ | refine s_min rfl rfl ?_ | refine s_max rfl rfl ?_ | (refine s_appS rfl rfl om ?_; intro A c) | (refine s_appO rfl rfl om ?_; intro A c)) | (refine k_guard ?_; first | refine s_on rfl rfl ?_ | refine s_off rfl rfl rfl rfl ?_ | refine s_offU rfl rfl rfl rfl ?_ | (refine s_casesd rfl rfl ?_ ?_ <;> intro hc <;> try (exfalso; omega)) | (refine s_casesn rfl rfl ?_ ?_ <;> intro hc <;> try (exfalso; omega)) | (refine s_cases rfl rfl ?_ ?_ <;> intro hc)) | refine s_func (v1 := []) (v2 := [.pointer _]) rfl rfl ?_ | refine s_func (v1 := []) (v2 := []) rfl rfl ?_ | refine s_putW (yv := true) rfl rfl rfl trivial om ?_ | refine s_putIW (yv := true) rfl rfl rfl trivial om ?_ | refine s_lookW rfl rfl ?_ | refine s_lookSW rfl rfl ?_ | (refine s_alloc ?_; intro b) | (refine s_box _ rfl ?_; intro b) | (refine s_make rfl rfl om ?_; intro b) | (refine s_makeI rfl rfl om om ?_; intro b) | refine s_cutH rfl rfl om om ?_ | (refine s_cutL rfl rfl om ?_; intro A) | refine s_not rfl ?_ | refine s_pick rfl ?_ | refine s_extract rfl rfl ?_ | refine s_nilck rfl ?_ | (refine s_app1 _ (fun _ => rfl) rfl om ?_; intro v A c) | (refine s_app1N _ (fun _ => rfl) rfl (by decide) ?_; intro v A c) | (refine s_mkmapB ?_; intro b) | (refine s_mkmapI ?_; intro b) | (refine s_lit [] rfl (by decide) rfl ?_; intro b) | (refine s_lit [_] rfl (by decide) rfl ?_; intro b) | (refine s_lit [_, _] rfl (by decide) rfl ?_; intro b) | (refine s_lit [_, _, _] rfl (by decide) rfl ?_; intro b)))
  have hS : ∃ q : Nat, q = ss.length - 1 := ⟨_, rfl⟩
  refine s_loop (σ := List Int × Int × Option Addr × List Int) (fun s => [(1, .pointer (some ⟨b, 0, none⟩)), (4, .pointer (some ⟨bf, 0, none⟩)), (5, .slice s.2.2.1 ss.length ss.length)])
    (fun s => own 3 s.2.2.1 ss.length ss.length s.2.2.2 :: (fl13 bf A1 c1 (arcsOf (ntOf n).E s.1) A2 c2 ss ++ [var 26 b n]))
    (fun s => Flows (ntOf n) s.1 s.2.1 ∧ Seek (arcsOf (ntOf n).E s.1) ss s.2.2.2) (fun s => (1073741824 * (n.fWeights.xs.length : Int) - s.2.1).toNat) (List.replicate (ntOf n).E.length 0, 0, A, bs) (by repeat (first | exact trivial | refine ⟨rfl, ?_⟩)) ⟨⟨by simp, fun i h => by simp, fun i h h2 => ?_, fun χ => ?_⟩, hseek⟩ PSub.refl ?_
  · have := Nt.E_lt hn h2
    by_cases hi : i < (ntOf n).ws.length
    · rw [Nt.E_nd hi h2]
      have := (hn.w _ (List.getElem_mem hi)).1
      simp; omega
    · obtain ⟨h3, e⟩ := Nt.E_wy' (n := ntOf n) (by omega) h2
      rw [e, (wyE_cases hn (List.getElem_mem h3)).1]
      simp; decide
  · rw [Int.zero_mul]
    generalize (ntOf n).E = E
    induction E with
    | nil => rfl
    | cons a E ih =>
      rw [List.length_cons, List.replicate_succ]
      simp only [dvg, ih]; omega
  rintro g ⟨f, val, A, bs⟩ ⟨hfl, hsk⟩
  dsimp only at hfl hsk ⊢
  have hbl : bs.length = ss.length := by obtain ⟨ord, hI, _⟩ := hsk; exact hI.len
  have hle := hfl.le_all hn
  have hwsl : (ntOf n).ws.length = n.fWeights.xs.length := rfl
  rw [hwsl] at hle
  have hlast : ((ss.length : Int) - 1).toNat = 2 * n.fWeights.xs.length + 1 := by omega
  (repeat' (first | refine s_move ?_ | refine s_assign ?_ | refine s_nil ?_ | (refine k_C ?_; first | refine s_seq ?_ | refine s_region ?_ | refine s_stillP foI rfl (by kernel_rfl) ?_ | refine s_skip ?_ | refine s_block ?_ | refine s_exit ?_ | refine s_ret ?_ | refine s_ift rfl ?_ | refine s_iff rfl ?_ | (refine s_ifd rfl ?_ ?_ <;> intro hc <;> try (exfalso; omega)) | (refine s_ifn rfl ?_ ?_ <;> intro hc <;> try (exfalso; omega)) | (refine s_if rfl ?_ ?_ <;> intro hc)) | (refine k_E ?_; first | refine e_seq ?_ | refine e_seq_ret ?_ | refine e_seq_exit ?_ | refine e_bk_exit ?_ | refine e_bk_ret ?_ | refine e_bk ?_ | refine e_bk_out rfl ?_ | refine e_lp_ret ?_ | refine e_lp_exit ?_ | refine e_ct_ret ?_ | refine e_ct_exit ?_) | (refine k_load ?_; first | refine s_ldB rfl rfl ?_ | refine s_ldBW rfl rfl ?_ | refine s_ldBA rfl (by decide) ?_ | refine s_ldRB rfl rfl ?_ | refine s_ldRBA rfl (by decide) ?_ | refine s_ld rfl om rfl ?_ | refine s_ldF rfl om rfl ?_ | refine s_ldA rfl om rfl ?_ | refine s_ldFA rfl om (by decide) ?_ | refine s_ldR rfl om rfl ?_ | refine s_ldS rfl rfl om rfl ?_ | refine s_ldSF rfl rfl om rfl ?_ | refine s_ldSA rfl rfl om rfl ?_ | refine s_ldSFA rfl rfl om (by decide) ?_) | (refine k_bin ?_; first | refine s_lss rfl rfl ?_ | refine s_add1 rfl rfl om ?_ | refine s_add64 rfl rfl om ?_ | refine s_sub64 rfl rfl om ?_ | refine s_eql rfl rfl ?_ | refine s_neq rfl rfl ?_ | refine s_gtr rfl rfl ?_ | refine s_geq rfl rfl ?_ | refine s_leq rfl rfl ?_ | refine s_beq rfl rfl ?_ | refine s_pnil rfl rfl ?_ | refine s_snil rfl rfl ?_ | refine s_bne rfl rfl ?_ | refine s_rem rfl rfl om ?_ | refine s_mul64 rfl rfl om ?_ | refine s_xor1 rfl rfl om ?_ | refine s_xor1I rfl rfl om om ?_) | (refine k_fld ?_; first | refine s_fld rfl ?_ | refine s_fldB rfl ?_) | (refine k_idx ?_; first | refine s_idx rfl rfl om ?_ | refine s_idxI rfl rfl om om ?_ | refine s_idxR rfl rfl om ?_ | refine s_idxRI rfl rfl om om ?_ | refine s_idxS rfl rfl om ?_ | refine s_idxSI rfl rfl om om ?_ | refine s_idxV (j := 0) rfl rfl (by decide) ?_ | refine s_idxV rfl rfl (by decide) ?_) | (refine k_store ?_; first | refine s_stW _ rfl rfl ?_ | refine s_st _ rfl rfl om ?_ | refine s_stB _ rfl rfl rfl (by decide) ?_) | (refine k_call ?_; first | refine s_len rfl ?_ | refine s_cap rfl ?_ | refine s_min rfl rfl ?_ | refine s_max rfl rfl ?_ | (refine s_appS rfl rfl om ?_; intro A c) | (refine s_appO rfl rfl om ?_; intro A c)) | (refine k_guard ?_; first | refine s_on rfl rfl ?_ | refine s_off rfl rfl rfl rfl ?_ | refine s_offU rfl rfl rfl rfl ?_ | (refine s_casesd rfl rfl ?_ ?_ <;> intro hc <;> try (exfalso; omega)) | (refine s_casesn rfl rfl ?_ ?_ <;> intro hc <;> try (exfalso; omega)) | (refine s_cases rfl rfl ?_ ?_ <;> intro hc)) | refine s_func (v1 := []) (v2 := [.pointer _]) rfl rfl ?_ | refine s_func (v1 := []) (v2 := []) rfl rfl ?_ | refine s_putW (yv := true) rfl rfl rfl trivial om ?_ | refine s_putIW (yv := true) rfl rfl rfl trivial om ?_ | refine s_lookW rfl rfl ?_ | refine s_lookSW rfl rfl ?_ | (refine s_alloc ?_; intro b) | (refine s_box _ rfl ?_; intro b) | (refine s_make rfl rfl om ?_; intro b) | (refine s_makeI rfl rfl om om ?_; intro b) | refine s_cutH rfl rfl om om ?_ | (refine s_cutL rfl rfl om ?_; intro A) | refine s_not rfl ?_ | refine s_pick rfl ?_ | refine s_extract rfl rfl ?_ | refine s_nilck rfl ?_ | (refine s_app1 _ (fun _ => rfl) rfl om ?_; intro v A c) | (refine s_app1N _ (fun _ => rfl) rfl (by decide) ?_; intro v A c) | (refine s_mkmapB ?_; intro b) | (refine s_mkmapI ?_; intro b) | (refine s_lit [] rfl (by decide) rfl ?_; intro b) | (refine s_lit [_] rfl (by decide) rfl ?_; intro b) | (refine s_lit [_, _] rfl (by decide) rfl ?_; intro b) | (refine s_lit [_, _, _] rfl (by decide) rfl ?_; intro b)))
  · rw [hlast] at hc
    have hgr : Gr (arcsOf (ntOf n).E f) ss := gr13 hn hf hfl.len hadj
    have hft : Fit (ntOf n).E f := ⟨hfl.len, fun i h h2 => ⟨hfl.lo i h2, hfl.hi i h2 h⟩⟩
    obtain ⟨ok, rank, hway⟩ := way_of hfl.len (by rw [hN]; exact hadj) hsk (by omega) (by rw [hN, show 2 * n.fWeights.xs.length + 2 - 1 = 2 * n.fWeights.xs.length + 1 by omega]; exact hc)
    have hpos : 0 ≤ nth bs (ss.length - 1) := by
      apply Classical.byContradiction
      intro hneg
      have := hway.neg _ hway.last (by omega)
      omega
    refine s_call (L2 := [own 3 A ss.length ss.length bs, var 26 b n]) [1, 1, 1, 1] (push13_spec bf A1 c1 (ntOf n).E f A2 c2 ss (⟨A, ss.length, bs⟩ : Sl Int) ok rank hgr hft (fun i h => (Nt.E_lt hn h).2.2) hbl hway) (by
      refine List.cons_eq_cons.2 ⟨rfl, List.cons_eq_cons.2 ⟨?_, rfl⟩⟩
      show Value.slice A ss.length ss.length = Value.slice A bs.length ss.length
      rw [hbl]) rfl (fun w1 f1 C => C.ownI A fun x hx => ?_) ?_
    · exact seek_wf hsk hgr.m hx
    rintro v L' ⟨rfl, f', M, hft', hM0, hM1, hdv, rfl⟩
    have hfl' : Flows (ntOf n) f' (val + M) := ⟨hft'.len, fun i h => (hft'.bd i (by rw [← hft'.len]; exact h) h).1, fun i h h2 => (hft'.bd i h2 h).2, fun χ => by
      rw [hdv χ, hfl.cons χ, hwsl, hN, show 2 * n.fWeights.xs.length + 2 - 2 = 2 * n.fWeights.xs.length by omega, show 2 * n.fWeights.xs.length + 2 - 1 = 2 * n.fWeights.xs.length + 1 by omega, ← Int.add_mul]⟩
    have hgr' : Gr (arcsOf (ntOf n).E f') ss := gr13 hn hf hfl'.len hadj
    (repeat' (first | refine s_move ?_ | refine s_assign ?_ | refine s_nil ?_ | (refine k_C ?_; first | refine s_seq ?_ | refine s_region ?_ | refine s_stillP foI rfl (by kernel_rfl) ?_ | refine s_skip ?_ | refine s_block ?_ | refine s_exit ?_ | refine s_ret ?_ | refine s_ift rfl ?_ | refine s_iff rfl ?_ | (refine s_ifd rfl ?_ ?_ <;> intro hc <;> try (exfalso; omega)) | (refine s_ifn rfl ?_ ?_ <;> intro hc <;> try (exfalso; omega)) | (refine s_if rfl ?_ ?_ <;> intro hc)) | (refine k_E ?_; first | refine e_seq ?_ | refine e_seq_ret ?_ | refine e_seq_exit ?_ | refine e_bk_exit ?_ | refine e_bk_ret ?_ | refine e_bk ?_ | refine e_bk_out rfl ?_ | refine e_lp_ret ?_ | refine e_lp_exit ?_ | refine e_ct_ret ?_ | refine e_ct_exit ?_) | (refine k_load ?_; first | refine s_ldB rfl rfl ?_ | refine s_ldBW rfl rfl ?_ | refine s_ldBA rfl (by decide) ?_ | refine s_ldRB rfl rfl ?_ | refine s_ldRBA rfl (by decide) ?_ | refine s_ld rfl om rfl ?_ | refine s_ldF rfl om rfl ?_ | refine s_ldA rfl om rfl ?_ | refine s_ldFA rfl om (by decide) ?_ | refine s_ldR rfl om rfl ?_ | refine s_ldS rfl rfl om rfl ?_ | refine s_ldSF rfl rfl om rfl ?_ | refine s_ldSA rfl rfl om rfl ?_ | refine s_ldSFA rfl rfl om (by decide) ?_) | (refine k_bin ?_; first | refine s_lss rfl rfl ?_ | refine s_add1 rfl rfl om ?_ | refine s_add64 rfl rfl om ?_ | refine s_sub64 rfl rfl om ?_ | refine s_eql rfl rfl ?_ | refine s_neq rfl rfl ?_ | refine s_gtr rfl rfl ?_ | refine s_geq rfl rfl ?_ | refine s_leq rfl rfl ?_ | refine s_beq rfl rfl ?_ | refine s_pnil rfl rfl ?_ | refine s_snil rfl rfl ?_ | refine s_bne rfl rfl ?_ | refine s_rem rfl rfl om ?_ | refine s_mul64 rfl rfl om ?_ | refine s_xor1 rfl rfl om ?_ | refine s_xor1I rfl rfl om om ?_) | (refine k_fld ?_; first | refine s_fld rfl ?_ | refine s_fldB rfl ?_) | (refine k_idx ?_; first | refine s_idx rfl rfl om ?_ | refine s_idxI rfl rfl om om ?_ | refine s_idxR rfl rfl om ?_ | refine s_idxRI rfl rfl om om ?_ | refine s_idxS rfl rfl om ?_ | refine s_idxSI rfl rfl om om ?_ | refine s_idxV (j := 0) rfl rfl (by decide) ?_ | refine s_idxV rfl rfl (by decide) ?_) | (refine k_store ?_; first | refine s_stW _ rfl rfl ?_ | refine s_st _ rfl rfl om ?_ | refine s_stB _ rfl rfl rfl (by decide) ?_) | (refine k_call ?_; first | refine s_len rfl ?_ | refine s_cap rfl ?_ | refine s_min rfl rfl ?_ | refine s_max rfl rfl ?_ | (refine s_appS rfl rfl om ?_; intro A c) | (refine s_appO rfl rfl om ?_; intro A c)) | (refine k_guard ?_; first | refine s_on rfl rfl ?_ | refine s_off rfl rfl rfl rfl ?_ | refine s_offU rfl rfl rfl rfl ?_ | (refine s_casesd rfl rfl ?_ ?_ <;> intro hc <;> try (exfalso; omega)) | (refine s_casesn rfl rfl ?_ ?_ <;> intro hc <;> try (exfalso; omega)) | (refine s_cases rfl rfl ?_ ?_ <;> intro hc)) | refine s_func (v1 := []) (v2 := [.pointer _]) rfl rfl ?_ | refine s_func (v1 := []) (v2 := []) rfl rfl ?_ | refine s_putW (yv := true) rfl rfl rfl trivial om ?_ | refine s_putIW (yv := true) rfl rfl rfl trivial om ?_ | refine s_lookW rfl rfl ?_ | refine s_lookSW rfl rfl ?_ | (refine s_alloc ?_; intro b) | (refine s_box _ rfl ?_; intro b) | (refine s_make rfl rfl om ?_; intro b) | (refine s_makeI rfl rfl om om ?_; intro b) | refine s_cutH rfl rfl om om ?_ | (refine s_cutL rfl rfl om ?_; intro A) | refine s_not rfl ?_ | refine s_pick rfl ?_ | refine s_extract rfl rfl ?_ | refine s_nilck rfl ?_ | (refine s_app1 _ (fun _ => rfl) rfl om ?_; intro v A c) | (refine s_app1N _ (fun _ => rfl) rfl (by decide) ?_; intro v A c) | (refine s_mkmapB ?_; intro b) | (refine s_mkmapI ?_; intro b) | (refine s_lit [] rfl (by decide) rfl ?_; intro b) | (refine s_lit [_] rfl (by decide) rfl ?_; intro b) | (refine s_lit [_, _] rfl (by decide) rfl ?_; intro b) | (refine s_lit [_, _, _] rfl (by decide) rfl ?_; intro b)))
    refine s_call [0, 0, 0, 0] (seek13_spec bf A1 c1 (arcsOf (ntOf n).E f') A2 c2 ss hgr') rfl rfl (fun _ _ _ => trivial) ?_
    rintro v L' ⟨A', bs', rfl, hseek', rfl⟩
    (repeat' (first | refine s_move ?_ | refine s_assign ?_ | refine s_nil ?_ | (refine k_C ?_; first | refine s_seq ?_ | refine s_region ?_ | refine s_stillP foI rfl (by kernel_rfl) ?_ | refine s_skip ?_ | refine s_block ?_ | refine s_exit ?_ | refine s_ret ?_ | refine s_ift rfl ?_ | refine s_iff rfl ?_ | (refine s_ifd rfl ?_ ?_ <;> intro hc <;> try (exfalso; omega)) | (refine s_ifn rfl ?_ ?_ <;> intro hc <;> try (exfalso; omega)) | (refine s_if rfl ?_ ?_ <;> intro hc)) | (refine k_E ?_; first | refine e_seq ?_ | refine e_seq_ret ?_ | refine e_seq_exit ?_ | refine e_bk_exit ?_ | refine e_bk_ret ?_ | refine e_bk ?_ | refine e_bk_out rfl ?_ | refine e_lp_ret ?_ | refine e_lp_exit ?_ | refine e_ct_ret ?_ | refine e_ct_exit ?_) | (refine k_load ?_; first | refine s_ldB rfl rfl ?_ | refine s_ldBW rfl rfl ?_ | refine s_ldBA rfl (by decide) ?_ | refine s_ldRB rfl rfl ?_ | refine s_ldRBA rfl (by decide) ?_ | refine s_ld rfl om rfl ?_ | refine s_ldF rfl om rfl ?_ | refine s_ldA rfl om rfl ?_ | refine s_ldFA rfl om (by decide) ?_ | refine s_ldR rfl om rfl ?_ | refine s_ldS rfl rfl om rfl ?_ | refine s_ldSF rfl rfl om rfl ?_ | refine s_ldSA rfl rfl om rfl ?_ | refine s_ldSFA rfl rfl om (by decide) ?_) | (refine k_bin ?_; first | refine s_lss rfl rfl ?_ | refine s_add1 rfl rfl om ?_ | refine s_add64 rfl rfl om ?_ | refine s_sub64 rfl rfl om ?_ | refine s_eql rfl rfl ?_ | refine s_neq rfl rfl ?_ | refine s_gtr rfl rfl ?_ | refine s_geq rfl rfl ?_ | refine s_leq rfl rfl ?_ | refine s_beq rfl rfl ?_ | refine s_pnil rfl rfl ?_ | refine s_snil rfl rfl ?_ | refine s_bne rfl rfl ?_ | refine s_rem rfl rfl om ?_ | refine s_mul64 rfl rfl om ?_ | refine s_xor1 rfl rfl om ?_ | refine s_xor1I rfl rfl om om ?_) | (refine k_fld ?_; first | refine s_fld rfl ?_ | refine s_fldB rfl ?_) | (refine k_idx ?_; first | refine s_idx rfl rfl om ?_ | refine s_idxI rfl rfl om om ?_ | refine s_idxR rfl rfl om ?_ | refine s_idxRI rfl rfl om om ?_ | refine s_idxS rfl rfl om ?_ | refine s_idxSI rfl rfl om om ?_ | refine s_idxV (j := 0) rfl rfl (by decide) ?_ | refine s_idxV rfl rfl (by decide) ?_) | (refine k_store ?_; first | refine s_stW _ rfl rfl ?_ | refine s_st _ rfl rfl om ?_ | refine s_stB _ rfl rfl rfl (by decide) ?_) | (refine k_call ?_; first | refine s_len rfl ?_ | refine s_cap rfl ?_ | refine s_min rfl rfl ?_ | refine s_max rfl rfl ?_ | (refine s_appS rfl rfl om ?_; intro A c) | (refine s_appO rfl rfl om ?_; intro A c)) | (refine k_guard ?_; first | refine s_on rfl rfl ?_ | refine s_off rfl rfl rfl rfl ?_ | refine s_offU rfl rfl rfl rfl ?_ | (refine s_casesd rfl rfl ?_ ?_ <;> intro hc <;> try (exfalso; omega)) | (refine s_casesn rfl rfl ?_ ?_ <;> intro hc <;> try (exfalso; omega)) | (refine s_cases rfl rfl ?_ ?_ <;> intro hc)) | refine s_func (v1 := []) (v2 := [.pointer _]) rfl rfl ?_ | refine s_func (v1 := []) (v2 := []) rfl rfl ?_ | refine s_putW (yv := true) rfl rfl rfl trivial om ?_ | refine s_putIW (yv := true) rfl rfl rfl trivial om ?_ | refine s_lookW rfl rfl ?_ | refine s_lookSW rfl rfl ?_ | (refine s_alloc ?_; intro b) | (refine s_box _ rfl ?_; intro b) | (refine s_make rfl rfl om ?_; intro b) | (refine s_makeI rfl rfl om om ?_; intro b) | refine s_cutH rfl rfl om om ?_ | (refine s_cutL rfl rfl om ?_; intro A) | refine s_not rfl ?_ | refine s_pick rfl ?_ | refine s_extract rfl rfl ?_ | refine s_nilck rfl ?_ | (refine s_app1 _ (fun _ => rfl) rfl om ?_; intro v A c) | (refine s_app1N _ (fun _ => rfl) rfl (by decide) ?_; intro v A c) | (refine s_mkmapB ?_; intro b) | (refine s_mkmapI ?_; intro b) | (refine s_lit [] rfl (by decide) rfl ?_; intro b) | (refine s_lit [_] rfl (by decide) rfl ?_; intro b) | (refine s_lit [_, _] rfl (by decide) rfl ?_; intro b) | (refine s_lit [_, _, _] rfl (by decide) rfl ?_; intro b)))
    have hM := hM1 hpos
    have hle' := hfl'.le_all hn
    rw [hwsl] at hle'
    refine e_lp (f', val + M, A', bs') (by repeat (first | exact trivial | refine ⟨rfl, ?_⟩)) ⟨hfl', hseek'⟩ (by show (1073741824 * (n.fWeights.xs.length : Int) - (val + M)).toNat < (1073741824 * (n.fWeights.xs.length : Int) - val).toNat; omega) (PSub.take [0, 0, 0, 0, 0, 1] rfl)
  rw [hlast] at hc
  obtain ⟨hcut, hval⟩ := done13 hn hf hfl hadj hsk hc
  refine s_loop (σ := Nat × Option Addr × Nat × Nat × List Int) (fun s => [(5, .slice A ss.length ss.length), (28, .slice n.fWeights.A n.fWeights.xs.length n.fWeights.c), (29, .int .i64 n.fWeights.xs.length), (30, .int .i64 (s.1 : Nat)), (6, .slice s.2.1 s.2.2.1 s.2.2.2.1)])
    (fun s => [own 3 s.2.1 s.2.2.1 s.2.2.2.1 s.2.2.2.2, own 3 A ss.length ss.length bs]) (fun s => s.1 ≤ n.fWeights.xs.length ∧ s.2.2.1 = s.2.2.2.2.length ∧ s.2.2.1 ≤ s.1 ∧ s.2.2.2.2 = ((List.range s.1).filter (cutOf bs)).map fun v : Nat => (v : Int)) (fun s => n.fWeights.xs.length - s.1) (0, none, 0, 0, []) (by repeat (first | exact trivial | refine ⟨rfl, ?_⟩)) ⟨Nat.zero_le _, rfl, Nat.le_refl _, rfl⟩ ((PSub.nilOwn (α := Int) 3).trans (PSub.take [0, 0] rfl)) ?_
  rintro g2 ⟨i, A3, l3, c3, xs⟩ ⟨j1, j2, j3, j4⟩
  dsimp only at j1 j2 j3 j4 ⊢
  (repeat' (first | refine s_move ?_ | refine s_assign ?_ | refine s_nil ?_ | (refine k_C ?_; first | refine s_seq ?_ | refine s_region ?_ | refine s_stillP foI rfl (by kernel_rfl) ?_ | refine s_skip ?_ | refine s_block ?_ | refine s_exit ?_ | refine s_ret ?_ | refine s_ift rfl ?_ | refine s_iff rfl ?_ | (refine s_ifd rfl ?_ ?_ <;> intro hc <;> try (exfalso; omega)) | (refine s_ifn rfl ?_ ?_ <;> intro hc <;> try (exfalso; omega)) | (refine s_if rfl ?_ ?_ <;> intro hc)) | (refine k_E ?_; first | refine e_seq ?_ | refine e_seq_ret ?_ | refine e_seq_exit ?_ | refine e_bk_exit ?_ | refine e_bk_ret ?_ | refine e_bk ?_ | refine e_bk_out rfl ?_ | refine e_lp_ret ?_ | refine e_lp_exit ?_ | refine e_ct_ret ?_ | refine e_ct_exit ?_) | (refine k_load ?_; first | refine s_ldB rfl rfl ?_ | refine s_ldBW rfl rfl ?_ | refine s_ldBA rfl (by decide) ?_ | refine s_ldRB rfl rfl ?_ | refine s_ldRBA rfl (by decide) ?_ | refine s_ld rfl om rfl ?_ | refine s_ldF rfl om rfl ?_ | refine s_ldA rfl om rfl ?_ | refine s_ldFA rfl om (by decide) ?_ | refine s_ldR rfl om rfl ?_ | refine s_ldS rfl rfl om rfl ?_ | refine s_ldSF rfl rfl om rfl ?_ | refine s_ldSA rfl rfl om rfl ?_ | refine s_ldSFA rfl rfl om (by decide) ?_) | (refine k_bin ?_; first | refine s_lss rfl rfl ?_ | refine s_add1 rfl rfl om ?_ | refine s_add64 rfl rfl om ?_ | refine s_sub64 rfl rfl om ?_ | refine s_eql rfl rfl ?_ | refine s_neq rfl rfl ?_ | refine s_gtr rfl rfl ?_ | refine s_geq rfl rfl ?_ | refine s_leq rfl rfl ?_ | refine s_beq rfl rfl ?_ | refine s_pnil rfl rfl ?_ | refine s_snil rfl rfl ?_ | refine s_bne rfl rfl ?_ | refine s_rem rfl rfl om ?_ | refine s_mul64 rfl rfl om ?_ | refine s_xor1 rfl rfl om ?_ | refine s_xor1I rfl rfl om om ?_) | (refine k_fld ?_; first | refine s_fld rfl ?_ | refine s_fldB rfl ?_) | (refine k_idx ?_; first | refine s_idx rfl rfl om ?_ | refine s_idxI rfl rfl om om ?_ | refine s_idxR rfl rfl om ?_ | refine s_idxRI rfl rfl om om ?_ | refine s_idxS rfl rfl om ?_ | refine s_idxSI rfl rfl om om ?_ | refine s_idxV (j := 0) rfl rfl (by decide) ?_ | refine s_idxV rfl rfl (by decide) ?_) | (refine k_store ?_; first | refine s_stW _ rfl rfl ?_ | refine s_st _ rfl rfl om ?_ | refine s_stB _ rfl rfl rfl (by decide) ?_) | (refine k_call ?_; first | refine s_len rfl ?_ | refine s_cap rfl ?_ | refine s_min rfl rfl ?_ | refine s_max rfl rfl ?_ | (refine s_appS rfl rfl om ?_; intro A c) | (refine s_appO rfl rfl om ?_; intro A c)) | (refine k_guard ?_; first | refine s_on rfl rfl ?_ | refine s_off rfl rfl rfl rfl ?_ | refine s_offU rfl rfl rfl rfl ?_ | (refine s_casesd rfl rfl ?_ ?_ <;> intro hc <;> try (exfalso; omega)) | (refine s_casesn rfl rfl ?_ ?_ <;> intro hc <;> try (exfalso; omega)) | (refine s_cases rfl rfl ?_ ?_ <;> intro hc)) | refine s_func (v1 := []) (v2 := [.pointer _]) rfl rfl ?_ | refine s_func (v1 := []) (v2 := []) rfl rfl ?_ | refine s_putW (yv := true) rfl rfl rfl trivial om ?_ | refine s_putIW (yv := true) rfl rfl rfl trivial om ?_ | refine s_lookW rfl rfl ?_ | refine s_lookSW rfl rfl ?_ | (refine s_alloc ?_; intro b) | (refine s_box _ rfl ?_; intro b) | (refine s_make rfl rfl om ?_; intro b) | (refine s_makeI rfl rfl om om ?_; intro b) | refine s_cutH rfl rfl om om ?_ | (refine s_cutL rfl rfl om ?_; intro A) | refine s_not rfl ?_ | refine s_pick rfl ?_ | refine s_extract rfl rfl ?_ | refine s_nilck rfl ?_ | (refine s_app1 _ (fun _ => rfl) rfl om ?_; intro v A c) | (refine s_app1N _ (fun _ => rfl) rfl (by decide) ?_; intro v A c) | (refine s_mkmapB ?_; intro b) | (refine s_mkmapI ?_; intro b) | (refine s_lit [] rfl (by decide) rfl ?_; intro b) | (refine s_lit [_] rfl (by decide) rfl ?_; intro b) | (refine s_lit [_, _] rfl (by decide) rfl ?_; intro b) | (refine s_lit [_, _, _] rfl (by decide) rfl ?_; intro b)))
  · have e1 : (2 * (i : Int)).toNat = 2 * i := by omega
    have e2 : (2 * (i : Int) + 1).toNat = 2 * i + 1 := by omega
    have hC : cutOf bs i = true := by
      unfold cutOf
      simp only [Bool.and_eq_true, decide_eq_true_eq]
      exact ⟨by assumption, by assumption⟩
    refine e_lp (i + 1, A, l3 + 1, c, xs ++ [(i : Int)]) (by repeat (first | exact trivial | refine ⟨rfl, ?_⟩)) ⟨by show i + 1 ≤ _; omega, by simp [j2], by show l3 + 1 ≤ i + 1; omega, ?_⟩ (by show _ - _ < _ - _; omega) (PSub.take [0, 0] rfl)
    show xs ++ [(i : Int)] = _
    rw [lst13_take, hC, if_pos rfl, j4]
  · have e1 : (2 * (i : Int)).toNat = 2 * i := by omega
    have e2 : (2 * (i : Int) + 1).toNat = 2 * i + 1 := by omega
    have hC : cutOf bs i = false := by
      unfold cutOf
      rw [Bool.and_eq_false_iff]
      right
      exact decide_eq_false (by assumption)
    refine e_lp (i + 1, A3, l3, c3, xs) (by repeat (first | exact trivial | refine ⟨rfl, ?_⟩)) ⟨by show i + 1 ≤ _; omega, j2, by show l3 ≤ i + 1; omega, ?_⟩ (by show _ - _ < _ - _; omega) (PSub.take [0, 0] rfl)
    show xs = _
    rw [lst13_take, hC, j4]; simp
  · have e1 : (2 * (i : Int)).toNat = 2 * i := by omega
    have hC : cutOf bs i = false := by
      unfold cutOf
      rw [Bool.and_eq_false_iff]
      left
      exact decide_eq_false (by simpa using hc)
    refine e_lp (i + 1, A3, l3, c3, xs) (by repeat (first | exact trivial | refine ⟨rfl, ?_⟩)) ⟨by show i + 1 ≤ _; omega, j2, by show l3 ≤ i + 1; omega, ?_⟩ (by show _ - _ < _ - _; omega) (PSub.take [0, 0] rfl)
    show xs = _
    rw [lst13_take, hC, j4]; simp
  · have hi' : i = n.fWeights.xs.length := by omega
    subst hi'
    subst j2
    refine e_done2 rfl rfl rfl _ (PSub.take [0] rfl) ⟨fun h => ?_, fun _ => ⟨A3, c3, cutOf bs, ?_, ?_, hcut, fun D hD => ?_⟩⟩
    · rw [hright] at h; cases h
    · rw [j4]; rfl
    · rw [j4]; rfl
    · rw [hval]; exact hfl.le_cut hn hD
end Go.Proofs.Ytmmjecopcjkeaaa
