/- push: as much as can is let flow on the way found. -/
import Derived.Test.YtmmjecopcjkeaaaC4
namespace Go.Proofs.Ytmmjecopcjkeaaa
set_option linter.unusedVariables false
set_option linter.unusedSimpArgs false
open Go Go.RowKit

/-- Within bounds. -/
structure Fit (E : List Fa) (f : List Int) : Prop where
  len : f.length = E.length
  bd : ∀ i (h : i < E.length) (hf : i < f.length), 0 ≤ f[i] ∧ f[i] ≤ E[i].c
/-- The ways back from the last. -/
structure Way (E : List Fa) (f : List Int) (bs : List Int) (N : Nat) (ok : Nat → Prop) (rank : Nat → Nat) : Prop where
  last : ok (N - 1)
  neg : ∀ v, ok v → nth bs v < 0 → v = N - 2
  fst : nth bs (N - 2) < 0
  lt : ∀ v, ok v → v < N
  stp : ∀ v, ok v → 0 ≤ nth bs v → ∃ i, ∃ h : i < E.length, ∃ t, ok t ∧ rank t < rank v ∧ ((nth bs v = (2 * i : Nat) ∧ E[i].v = v ∧ E[i].u = t) ∨ (nth bs v = (2 * i + 1 : Nat) ∧ E[i].u = v ∧ E[i].v = t))
  pos : ∀ v, ok v → 0 ≤ nth bs v → 0 < (nth (arcsOf E f) (nth bs v).toNat).fLeft
def rk13 (ord : List Nat) (v : Nat) : Nat := (ord.takeWhile (· != v)).length
theorem rk13_at : ∀ {p q : List Nat} {v : Nat}, v ∉ p → rk13 (p ++ v :: q) v = p.length
  | [], q, v, _ => by simp [rk13]
  | a :: p, q, v, h => by
    have h1 : a ≠ v := fun e => h (by simp [e])
    have h2 := rk13_at (p := p) (q := q) (v := v) fun hm => h (by simp [hm])
    unfold rk13 at h2 ⊢
    simp [h1]
    exact h2
theorem rk13_lt {ord p q : List Nat} {v t : Nat} (hn : ord.Nodup) (ho : ord = p ++ v :: q) (ht : t ∈ p) : rk13 ord t < rk13 ord v := by
  subst ho
  have hnv : v ∉ p := fun h => (List.nodup_append.1 hn).2.2 v h v (by simp) rfl
  rw [rk13_at hnv]
  obtain ⟨p1, p2, rfl⟩ := List.append_of_mem ht
  have hnt : t ∉ p1 := fun h => (List.nodup_append.1 (List.nodup_append.1 hn).1).2.2 t h t (by simp) rfl
  have e : (p1 ++ t :: p2) ++ v :: q = p1 ++ t :: (p2 ++ v :: q) := by simp
  rw [e, rk13_at hnt]
  simp
theorem way_of {E : List Fa} {f : List Int} {ss : List (Sl Int)} {bs : List Int} (hf : f.length = E.length) (ha : Adj E ss.length ss) (hs : Seek (arcsOf E f) ss bs) (hn2 : 2 ≤ ss.length) (hl : nth bs (ss.length - 1) ≠ -1) : ∃ ok rank, Way E f bs ss.length ok rank := by
  obtain ⟨ord, hI, _⟩ := hs
  refine ⟨fun v => v ∈ ord, rk13 ord, (hI.mem _).2 ⟨by omega, hl⟩, fun v hv hneg => ?_, by rw [hI.fst]; omega, fun v hv => ((hI.mem v).1 hv).1, fun v hv hpos => ?_, fun v hv hpos => ?_⟩
  · rcases hI.par v hv with h | ⟨k, h1, _⟩
    · exact h
    · rw [h1] at hneg; omega
  · rcases hI.par v hv with h | ⟨k, h1, h2, h3, h4, t, p, q, h5, h6, h7⟩
    · rw [h, hI.fst] at hpos; omega
    · obtain ⟨i, hi, h8⟩ := (ha.mem t k).1 h5
      refine ⟨i, hi, t, by rw [h6]; simp [h7], rk13_lt hI.nd h6 h7, ?_⟩
      have hg := arcsOf_get (E := E) (f := f) hi (by omega)
      rcases h8 with ⟨e1, e2⟩ | ⟨e1, e2⟩
      · have e1 : k = 2 * i := by omega
        subst e1
        rw [hg.1] at h3
        exact .inl ⟨h1, by have h3 : ((E[i].v : Nat) : Int) = v := h3; omega, e2⟩
      · have e1 : k = 2 * i + 1 := by omega
        subst e1
        rw [hg.2] at h3
        exact .inr ⟨h1, by have h3 : ((E[i].u : Nat) : Int) = v := h3; omega, e2⟩
  · rcases hI.par v hv with h | ⟨k, h1, h2, h3, h4, t, p, q, h5, h6, h7⟩
    · rw [h, hI.fst] at hpos; omega
    · rw [h1]; exact h4
theorem xor1_even (i : Nat) : xor1 (2 * i) = 2 * i + 1 := by unfold xor1; rw [if_pos (by omega)]
theorem xor1_odd (i : Nat) : xor1 (2 * i + 1) = 2 * i := by unfold xor1; rw [if_neg (by omega)]; omega
/-- Where the other way leads. -/
def tl13 (E : List Fa) (f : List Int) (bs : List Int) (v : Nat) : Nat := (nth (arcsOf E f) (xor1 (nth bs v).toNat)).fTo.toNat
def vAt (E : List Fa) (f : List Int) (bs : List Int) (v0 : Nat) : Nat → Nat
  | 0 => v0
  | k + 1 => tl13 E f bs (vAt E f bs v0 k)
/-- What stands in the heap of one way, and of the way beside it. -/
theorem Way.cases {E : List Fa} {f g : List Int} {bs : List Int} {N : Nat} {ok : Nat → Prop} {rank : Nat → Nat} (h : Way E f bs N ok rank) (hg : g.length = E.length) {v : Nat} (hv : ok v) (hp : 0 ≤ nth bs v) :
    ∃ q i, ∃ hi : i < E.length, ∃ hgi : i < g.length, nth bs v = (q : Nat) ∧ q < 2 * E.length ∧ xor1 q < 2 * E.length ∧ xor1 q ≠ q ∧ ok (tl13 E g bs v) ∧ rank (tl13 E g bs v) < rank v ∧ (nth (arcsOf E g) (xor1 q)).fTo = (tl13 E g bs v : Nat) ∧
      ((q = 2 * i ∧ E[i].v = v ∧ E[i].u = tl13 E g bs v ∧ nth (arcsOf E g) q = ⟨v, E[i].c - g[i]⟩ ∧ nth (arcsOf E g) (xor1 q) = ⟨tl13 E g bs v, g[i]⟩) ∨ (q = 2 * i + 1 ∧ E[i].u = v ∧ E[i].v = tl13 E g bs v ∧ nth (arcsOf E g) q = ⟨v, g[i]⟩ ∧ nth (arcsOf E g) (xor1 q) = ⟨tl13 E g bs v, E[i].c - g[i]⟩)) := by
  obtain ⟨i, hi, t, h1, h2, h3⟩ := h.stp v hv hp
  have hgi : i < g.length := by omega
  have ha := arcsOf_get (E := E) (f := g) hi hgi
  rcases h3 with ⟨e1, e2, e3⟩ | ⟨e1, e2, e3⟩
  · have ht : tl13 E g bs v = t := by
      unfold tl13
      rw [e1, Int.toNat_natCast, xor1_even, ha.2]; simp [e3]
    refine ⟨2 * i, i, hi, hgi, e1, by omega, by rw [xor1_even]; omega, by rw [xor1_even]; omega, by rw [ht]; exact h1, by rw [ht]; exact h2, by rw [xor1_even, ha.2, ht]; simp [e3], .inl ⟨rfl, e2, by rw [ht]; exact e3, by rw [ha.1, e2], by rw [xor1_even, ha.2, ht, e3]⟩⟩
  · have ht : tl13 E g bs v = t := by
      unfold tl13
      rw [e1, Int.toNat_natCast, xor1_odd, ha.1]; simp [e3]
    refine ⟨2 * i + 1, i, hi, hgi, e1, by omega, by rw [xor1_odd]; omega, by rw [xor1_odd]; omega, by rw [ht]; exact h1, by rw [ht]; exact h2, by rw [xor1_odd, ha.1, ht]; simp [e3], .inr ⟨rfl, e2, by rw [ht]; exact e3, by rw [ha.2, e2], by rw [xor1_odd, ha.1, ht, e3]⟩⟩
theorem tl13_any {E : List Fa} {f g : List Int} {bs : List Int} {N : Nat} {ok : Nat → Prop} {rank : Nat → Nat} (h : Way E f bs N ok rank) (hf : f.length = E.length) (hg : g.length = E.length) {v : Nat} (hv : ok v) (hp : 0 ≤ nth bs v) : tl13 E g bs v = tl13 E f bs v := by
  obtain ⟨q, i, hi, hgi, h1, _, _, _, _, _, _, h2⟩ := h.cases hg hv hp
  obtain ⟨q', i', hi', hgi', h1', _, _, _, _, _, _, h2'⟩ := h.cases hf hv hp
  have hq : q = q' := by omega
  subst hq
  rcases h2 with ⟨e1, _, e2, _⟩ | ⟨e1, _, e2, _⟩ <;> rcases h2' with ⟨e1', _, e2', _⟩ | ⟨e1', _, e2', _⟩
  · have : i = i' := by omega
    subst this; rw [← e2, e2']
  · omega
  · omega
  · have : i = i' := by omega
    subst this; rw [← e2, e2']
theorem Way.inj {E : List Fa} {f g : List Int} {bs : List Int} {N : Nat} {ok : Nat → Prop} {rank : Nat → Nat} (h : Way E f bs N ok rank) {v w : Nat} (hv : ok v) (hw : ok w) (hp : 0 ≤ nth bs v) (he : nth bs v = nth bs w) : v = w := by
  obtain ⟨i, hi, t, _, _, h3⟩ := h.stp v hv hp
  obtain ⟨i', hi', t', _, _, h3'⟩ := h.stp w hw (he ▸ hp)
  rcases h3 with ⟨e1, e2, _⟩ | ⟨e1, e2, _⟩ <;> rcases h3' with ⟨e1', e2', _⟩ | ⟨e1', e2', _⟩
  · have : i = i' := by omega
    subst this; omega
  · omega
  · omega
  · have : i = i' := by omega
    subst this; omega
theorem Way.push {E : List Fa} {f g : List Int} {bs : List Int} {N : Nat} {ok : Nat → Prop} {rank : Nat → Nat} (h : Way E f bs N ok rank) (hft : Fit E g) {v : Nat} (hv : ok v) (hp : 0 ≤ nth bs v) {M : Int} (hM : 0 ≤ M) (hMl : M ≤ (nth (arcsOf E g) (nth bs v).toNat).fLeft) :
    ∃ g', Fit E g' ∧ ((arcsOf E g).set (nth bs v).toNat ⟨(nth (arcsOf E g) (nth bs v).toNat).fTo, (nth (arcsOf E g) (nth bs v).toNat).fLeft - M⟩).set (xor1 (nth bs v).toNat) ⟨(nth (arcsOf E g) (xor1 (nth bs v).toNat)).fTo, (nth (arcsOf E g) (xor1 (nth bs v).toNat)).fLeft + M⟩ = arcsOf E g' ∧
      (∀ χ, dvg χ E g' = dvg χ E g + M * (χ (tl13 E g bs v) - χ v)) ∧ ∀ w, ok w → 0 ≤ nth bs w → w ≠ v → (nth (arcsOf E g) (nth bs w).toNat).fLeft ≤ (nth (arcsOf E g') (nth bs w).toNat).fLeft := by
  obtain ⟨q, i, hi, hgi, h1, h2, h3, h4, _, _, _, hc⟩ := h.cases hft.len hv hp
  have hal := arcsOf_len hft.len
  have hbd := hft.bd i hi hgi
  have hoth : ∀ (u1 u2 : CutArc) (w : Nat), (nth (arcsOf E g) (xor1 q)).fLeft ≤ u2.fLeft → ok w → 0 ≤ nth bs w → w ≠ v → (nth (arcsOf E g) (nth bs w).toNat).fLeft ≤ (nth (((arcsOf E g).set q u1).set (xor1 q) u2) (nth bs w).toNat).fLeft := by
    intro u1 u2 w hu hw hpw hne
    have hne' : (nth bs w).toNat ≠ q := fun e => hne (h.inj (g := g) hw hv hpw (by rw [h1]; omega))
    rw [nth_set (by rw [List.length_set]; omega)]
    split
    · rename_i e; rw [e]; exact hu
    · rw [nth_set (by omega), if_neg hne']; exact Int.le_refl _
  rw [h1, Int.toNat_natCast] at hMl ⊢
  rcases hc with ⟨rfl, e2, e3, e4, e5⟩ | ⟨rfl, e2, e3, e4, e5⟩
  · refine ⟨g.set i (g[i] + M), ⟨by rw [List.length_set]; exact hft.len, fun j hj hj2 => ?_⟩, ?_, fun χ => ?_, fun w hw hpw hne => ?_⟩
    · rw [List.getElem_set]
      split
      · rename_i e; subst e
        rw [e4] at hMl
        dsimp only at hMl
        omega
      · exact hft.bd j hj (by simpa using hj2)
    · rw [← arcsOf_set hi hgi, e4, e5, e2, e3, xor1_even]
      simp only [Int.sub_sub]
    · rw [dvg_set hi hgi, e2, e3, show g[i] + M - g[i] = M by omega]
    · rw [← arcsOf_set hi hgi, ← xor1_even]
      exact hoth _ _ w (by rw [e5]; dsimp only; omega) hw hpw hne
  · refine ⟨g.set i (g[i] - M), ⟨by rw [List.length_set]; exact hft.len, fun j hj hj2 => ?_⟩, ?_, fun χ => ?_, fun w hw hpw hne => ?_⟩
    · rw [List.getElem_set]
      split
      · rename_i e; subst e
        rw [e4] at hMl
        dsimp only at hMl
        omega
      · exact hft.bd j hj (by simpa using hj2)
    · rw [← arcsOf_set hi hgi, e4, e5, e2, e3, xor1_odd, List.set_comm _ _ (by omega)]
      simp only
      have e6 : E[i].c - g[i] + M = E[i].c - (g[i] - M) := by omega
      rw [e6]
    · rw [dvg_set hi hgi, e2, e3, show g[i] - M - g[i] = -M by omega, Int.neg_mul]
      have : M * (χ (tl13 E g bs v) - χ v) = - (M * (χ v - χ (tl13 E g bs v))) := by rw [← Int.mul_neg]; congr 1; omega
      omega
    · rw [← arcsOf_set hi hgi, List.set_comm _ _ (by omega)]
      have := hoth ⟨E[i].u, g[i] - M⟩ ⟨E[i].v, E[i].c - (g[i] - M)⟩ w (by rw [e5]; dsimp only; omega) hw hpw hne
      rw [xor1_odd] at this
      exact this
set_option maxHeartbeats 4000000 in
theorem push13_spec (b0 : Nat) (A1 : Option Addr) (c1 : Nat) (E : List Fa) (f : List Int) (A2 : Option Addr) (c2 : Nat) (ss : List (Sl Int)) (s : Sl Int) (ok : Nat → Prop) (rank : Nat → Nat) (hg : Gr (arcsOf E f) ss) (hft : Fit E f) (hcap : ∀ i (h : i < E.length), E[i].c ≤ much13) (hsl : s.xs.length = ss.length) (hw : Way E f s.xs ss.length ok rank) :
    Spec Try.prog 20 [.pointer (some ⟨b0, 0, none⟩), .slice s.A s.xs.length s.c] (fl13 b0 A1 c1 (arcsOf E f) A2 c2 ss) (fun okk w => RdD okk w s)
      fun v L' => v = .tuple #[] ∧ ∃ f' M, Fit E f' ∧ 0 ≤ M ∧ (0 ≤ nth s.xs (ss.length - 1) → 1 ≤ M) ∧ (∀ χ, dvg χ E f' = dvg χ E f + M * (χ (ss.length - 2) - χ (ss.length - 1))) ∧ L' = fl13 b0 A1 c1 (arcsOf E f') A2 c2 ss := by
  refine spec_of Try.func20 rfl rfl fun w0 f0 hR => ?_
  have hn := hg.n
  have hn2 := hg.n2
  have hm := hg.m
  have hal := arcsOf_len hft.len
  (repeat' (first | refine s_move ?_ | refine s_assign ?_ | refine s_nil ?_ | (refine k_C ?_; first | refine s_seq ?_ | refine s_region ?_ | refine s_stillP foI rfl (by kernel_rfl) ?_ | refine s_skip ?_ | refine s_block ?_ | refine s_exit ?_ | refine s_ret ?_ | refine s_ift rfl ?_ | refine s_iff rfl ?_ | (refine s_ifd rfl ?_ ?_ <;> intro hc <;> try (exfalso; omega)) | (refine s_ifn rfl ?_ ?_ <;> intro hc <;> try (exfalso; omega)) | (refine s_if rfl ?_ ?_ <;> intro hc)) | (refine k_E ?_; first | refine e_seq ?_ | refine e_seq_ret ?_ | refine e_seq_exit ?_ | refine e_bk_exit ?_ | refine e_bk_ret ?_ | refine e_bk ?_ | refine e_bk_out rfl ?_ | refine e_lp_ret ?_ | refine e_lp_exit ?_ | refine e_ct_ret ?_ | refine e_ct_exit ?_) | (refine k_load ?_; first | refine s_ldB rfl rfl ?_ | refine s_ldBW rfl rfl ?_ | refine s_ldBA rfl (by decide) ?_ | refine s_ldRB rfl rfl ?_ | refine s_ldRBA rfl (by decide) ?_ | refine s_ld rfl om rfl ?_ | refine s_ldF rfl om rfl ?_ | refine s_ldA rfl om rfl ?_ | refine s_ldFA rfl om (by decide) ?_ | refine s_ldR rfl om rfl ?_ | refine s_ldS rfl rfl om rfl ?_ | refine s_ldSF rfl rfl om rfl ?_ | refine s_ldSA rfl rfl om rfl ?_ | refine s_ldSFA rfl rfl om (by decide) ?_) | (refine k_bin ?_; first | refine s_lss rfl rfl ?_ | refine s_add1 rfl rfl om ?_ | refine s_add64 rfl rfl om ?_ | refine s_sub64 rfl rfl om ?_ | refine s_eql rfl rfl ?_ | refine s_neq rfl rfl ?_ | refine s_gtr rfl rfl ?_ | refine s_geq rfl rfl ?_ | refine s_leq rfl rfl ?_ | refine s_beq rfl rfl ?_ | refine s_pnil rfl rfl ?_ | refine s_snil rfl rfl ?_ | refine s_bne rfl rfl ?_ | refine s_rem rfl rfl om ?_ | refine s_mul64 rfl rfl om ?_ | refine s_xor1 rfl rfl om ?_ | refine s_xor1I rfl rfl om om ?_) | (refine k_fld ?_; first | refine s_fld rfl ?_ | refine s_fldB rfl ?_) | (refine k_idx ?_; first | refine s_idx rfl rfl om ?_ | refine s_idxI rfl rfl om om ?_ | refine s_idxR rfl rfl om ?_ | refine s_idxRI rfl rfl om om ?_ | refine s_idxS rfl rfl om ?_ | refine s_idxSI rfl rfl om om ?_ | refine s_idxV (j := 0) rfl rfl (by decide) ?_ | refine s_idxV rfl rfl (by decide) ?_) | (refine k_store ?_; first | refine s_stW _ rfl rfl ?_ | refine s_st _ rfl rfl om ?_ | refine s_stB _ rfl rfl rfl (by decide) ?_) | (refine k_call ?_; first | refine s_len rfl ?_ | refine s_min rfl rfl ?_ | refine s_max rfl rfl ?_ | (refine s_appS rfl rfl om ?_; intro A c) | (refine s_appO rfl rfl om ?_; intro A c)) | (refine k_guard ?_; first | refine s_on rfl rfl ?_ | refine s_off rfl rfl rfl rfl ?_ | refine s_offU rfl rfl rfl rfl ?_ | (refine s_casesd rfl rfl ?_ ?_ <;> intro hc <;> try (exfalso; omega)) | (refine s_casesn rfl rfl ?_ ?_ <;> intro hc <;> try (exfalso; omega)) | (refine s_cases rfl rfl ?_ ?_ <;> intro hc)) | refine s_func (v1 := []) (v2 := [.pointer _]) rfl rfl ?_ | refine s_func (v1 := []) (v2 := []) rfl rfl ?_ | refine s_putW (yv := true) rfl rfl rfl trivial om ?_ | refine s_putIW (yv := true) rfl rfl rfl trivial om ?_ | refine s_lookW rfl rfl ?_ | refine s_lookSW rfl rfl ?_ | (refine s_alloc ?_; intro b) | (refine s_box _ rfl ?_; intro b) | (refine s_make rfl rfl om ?_; intro b) | (refine s_makeI rfl rfl om om ?_; intro b) | refine s_cutH rfl rfl om om ?_ | (refine s_cutL rfl rfl om ?_; intro A) | refine s_not rfl ?_ | refine s_pick rfl ?_ | refine s_extract rfl rfl ?_ | refine s_nilck rfl ?_ | (refine s_app1 _ (fun _ => rfl) rfl om ?_; intro v A c) | (refine s_app1N _ (fun _ => rfl) rfl (by decide) ?_; intro v A c) | (refine s_mkmapB ?_; intro b) | (refine s_mkmapI ?_; intro b) | (refine s_lit [] rfl (by decide) rfl ?_; intro b) | (refine s_lit [_] rfl (by decide) rfl ?_; intro b) | (refine s_lit [_, _] rfl (by decide) rfl ?_; intro b) | (refine s_lit [_, _, _] rfl (by decide) rfl ?_; intro b)))
  refine s_loop (σ := Nat × Int × Int) (fun s' => [(0, .pointer (some ⟨b0, 0, none⟩)), (1, .slice s.A s.xs.length s.c), (4, .int .i64 ((ss.length : Int) - 1)), (5, .int .i64 s'.2.2), (6, .int .i64 s'.2.1)]) (fun _ => fl13 b0 A1 c1 (arcsOf E f) A2 c2 ss)
    (fun s' => s'.2.1 = (vAt E f s.xs (ss.length - 1) s'.1 : Nat) ∧ ok (vAt E f s.xs (ss.length - 1) s'.1) ∧ 1 ≤ s'.2.2 ∧ s'.2.2 ≤ much13 ∧ ∀ j, j < s'.1 → ok (vAt E f s.xs (ss.length - 1) j) ∧ 0 ≤ nth s.xs (vAt E f s.xs (ss.length - 1) j) ∧ s'.2.2 ≤ (nth (arcsOf E f) (nth s.xs (vAt E f s.xs (ss.length - 1) j)).toNat).fLeft)
    (fun s' => rank (vAt E f s.xs (ss.length - 1) s'.1)) (0, (ss.length : Int) - 1, much13) (by repeat (first | exact trivial | refine ⟨rfl, ?_⟩)) ⟨by show (ss.length : Int) - 1 = ((ss.length - 1 : Nat) : Int); omega, hw.last, by show (1 : Int) ≤ much13; decide, Int.le_refl _, fun j hj => absurd hj (Nat.not_lt_zero j)⟩ PSub.refl ?_
  rintro g ⟨k, vI, M⟩ ⟨i1, i2, i3, i4, i5⟩
  dsimp only at i1 i2 i3 i4 i5 ⊢
  have hv1 := hw.lt _ i2
  have hvt : vI.toNat = vAt E f s.xs (ss.length - 1) k := by omega
  have hv0 : 0 ≤ vI := by omega
  have hv2 : vI < s.xs.length := by omega
  have hcs : 0 ≤ nth s.xs vI.toNat → _ := fun h => hw.cases hft.len i2 (by rw [← hvt]; exact h)
  rw [← hvt] at hcs
  have hq1 : 0 ≤ nth s.xs vI.toNat → nth s.xs vI.toNat < (arcsOf E f).length := fun h => by
    obtain ⟨q, i, hi, hgi, e1, e2, _⟩ := hcs h
    omega
  have hq2 : 0 ≤ nth s.xs vI.toNat → xor1 (nth s.xs vI.toNat).toNat < (arcsOf E f).length := fun h => by
    obtain ⟨q, i, hi, hgi, e1, e2, e3, _⟩ := hcs h
    rw [e1, Int.toNat_natCast]; omega
  (repeat' (first | refine s_move ?_ | refine s_assign ?_ | refine s_nil ?_ | (refine k_C ?_; first | refine s_seq ?_ | refine s_region ?_ | refine s_stillP foI rfl (by kernel_rfl) ?_ | refine s_skip ?_ | refine s_block ?_ | refine s_exit ?_ | refine s_ret ?_ | refine s_ift rfl ?_ | refine s_iff rfl ?_ | (refine s_ifd rfl ?_ ?_ <;> intro hc <;> try (exfalso; omega)) | (refine s_ifn rfl ?_ ?_ <;> intro hc <;> try (exfalso; omega)) | (refine s_if rfl ?_ ?_ <;> intro hc)) | (refine k_E ?_; first | refine e_seq ?_ | refine e_seq_ret ?_ | refine e_seq_exit ?_ | refine e_bk_exit ?_ | refine e_bk_ret ?_ | refine e_bk ?_ | refine e_bk_out rfl ?_ | refine e_lp_ret ?_ | refine e_lp_exit ?_ | refine e_ct_ret ?_ | refine e_ct_exit ?_) | (refine k_load ?_; first | refine s_ldB rfl rfl ?_ | refine s_ldBW rfl rfl ?_ | refine s_ldBA rfl (by decide) ?_ | refine s_ldRB rfl rfl ?_ | refine s_ldRBA rfl (by decide) ?_ | refine s_ld rfl om rfl ?_ | refine s_ldF rfl om rfl ?_ | refine s_ldA rfl om rfl ?_ | refine s_ldFA rfl om (by decide) ?_ | refine s_ldR rfl om rfl ?_ | refine s_ldS rfl rfl om rfl ?_ | refine s_ldSF rfl rfl om rfl ?_ | refine s_ldSA rfl rfl om rfl ?_ | refine s_ldSFA rfl rfl om (by decide) ?_) | (refine k_bin ?_; first | refine s_lss rfl rfl ?_ | refine s_add1 rfl rfl om ?_ | refine s_add64 rfl rfl om ?_ | refine s_sub64 rfl rfl om ?_ | refine s_eql rfl rfl ?_ | refine s_neq rfl rfl ?_ | refine s_gtr rfl rfl ?_ | refine s_geq rfl rfl ?_ | refine s_leq rfl rfl ?_ | refine s_beq rfl rfl ?_ | refine s_pnil rfl rfl ?_ | refine s_snil rfl rfl ?_ | refine s_bne rfl rfl ?_ | refine s_rem rfl rfl om ?_ | refine s_mul64 rfl rfl om ?_ | refine s_xor1 rfl rfl om ?_ | refine s_xor1I rfl rfl om om ?_) | (refine k_fld ?_; first | refine s_fld rfl ?_ | refine s_fldB rfl ?_) | (refine k_idx ?_; first | refine s_idx rfl rfl om ?_ | refine s_idxI rfl rfl om om ?_ | refine s_idxR rfl rfl om ?_ | refine s_idxRI rfl rfl om om ?_ | refine s_idxS rfl rfl om ?_ | refine s_idxSI rfl rfl om om ?_ | refine s_idxV (j := 0) rfl rfl (by decide) ?_ | refine s_idxV rfl rfl (by decide) ?_) | (refine k_store ?_; first | refine s_stW _ rfl rfl ?_ | refine s_st _ rfl rfl om ?_ | refine s_stB _ rfl rfl rfl (by decide) ?_) | (refine k_call ?_; first | refine s_len rfl ?_ | refine s_min rfl rfl ?_ | refine s_max rfl rfl ?_ | (refine s_appS rfl rfl om ?_; intro A c) | (refine s_appO rfl rfl om ?_; intro A c)) | (refine k_guard ?_; first | refine s_on rfl rfl ?_ | refine s_off rfl rfl rfl rfl ?_ | refine s_offU rfl rfl rfl rfl ?_ | (refine s_casesd rfl rfl ?_ ?_ <;> intro hc <;> try (exfalso; omega)) | (refine s_casesn rfl rfl ?_ ?_ <;> intro hc <;> try (exfalso; omega)) | (refine s_cases rfl rfl ?_ ?_ <;> intro hc)) | refine s_func (v1 := []) (v2 := [.pointer _]) rfl rfl ?_ | refine s_func (v1 := []) (v2 := []) rfl rfl ?_ | refine s_putW (yv := true) rfl rfl rfl trivial om ?_ | refine s_putIW (yv := true) rfl rfl rfl trivial om ?_ | refine s_lookW rfl rfl ?_ | refine s_lookSW rfl rfl ?_ | (refine s_alloc ?_; intro b) | (refine s_box _ rfl ?_; intro b) | (refine s_make rfl rfl om ?_; intro b) | (refine s_makeI rfl rfl om om ?_; intro b) | refine s_cutH rfl rfl om om ?_ | (refine s_cutL rfl rfl om ?_; intro A) | refine s_not rfl ?_ | refine s_pick rfl ?_ | refine s_extract rfl rfl ?_ | refine s_nilck rfl ?_ | (refine s_app1 _ (fun _ => rfl) rfl om ?_; intro v A c) | (refine s_app1N _ (fun _ => rfl) rfl (by decide) ?_; intro v A c) | (refine s_mkmapB ?_; intro b) | (refine s_mkmapI ?_; intro b) | (refine s_lit [] rfl (by decide) rfl ?_; intro b) | (refine s_lit [_] rfl (by decide) rfl ?_; intro b) | (refine s_lit [_, _] rfl (by decide) rfl ?_; intro b) | (refine s_lit [_, _, _] rfl (by decide) rfl ?_; intro b)))
  · obtain ⟨q, i, hi, hgi, e1, e2, e3, e4, e5, e6, e7, _⟩ := hcs hc
    have hps := hw.pos _ i2 (by rw [← hvt]; exact hc)
    rw [← hvt] at hps
    have e8 : tl13 E f s.xs vI.toNat = vAt E f s.xs (ss.length - 1) (k + 1) := by rw [hvt]; rfl
    refine e_lp (k + 1, (nth (arcsOf E f) (xor1 (nth s.xs vI.toNat).toNat)).fTo, min M (nth (arcsOf E f) (nth s.xs vI.toNat).toNat).fLeft) (by repeat (first | exact trivial | refine ⟨rfl, ?_⟩)) ⟨?_, ?_, ?_, ?_, fun j hj => ?_⟩ ?_ PSub.refl
    · show (nth (arcsOf E f) (xor1 (nth s.xs vI.toNat).toNat)).fTo = _
      rw [e1, Int.toNat_natCast, e7, e8]
    · show ok (vAt E f s.xs (ss.length - 1) (k + 1))
      rw [← e8]; exact e5
    · show 1 ≤ min M _
      omega
    · show min M _ ≤ much13
      omega
    · show _ ∧ _ ∧ min M _ ≤ _
      rcases Nat.lt_succ_iff_lt_or_eq.1 (show j < k + 1 from hj) with h | rfl
      · obtain ⟨a1, a2, a3⟩ := i5 j h
        exact ⟨a1, a2, by omega⟩
      · rw [← hvt]
        exact ⟨by rw [hvt]; exact i2, hc, by omega⟩
    · show rank (vAt E f s.xs (ss.length - 1) (k + 1)) < rank (vAt E f s.xs (ss.length - 1) k)
      rw [← e8, ← hvt]; exact e6
  have hK : nth s.xs (vAt E f s.xs (ss.length - 1) k) < 0 := by rw [← hvt]; omega
  clear hq1 hq2 hcs
  refine s_loop (σ := Nat × Int × List Int) (fun s' => [(0, .pointer (some ⟨b0, 0, none⟩)), (1, .slice s.A s.xs.length s.c), (5, .int .i64 M), (7, .int .i64 s'.2.1)]) (fun s' => fl13 b0 A1 c1 (arcsOf E s'.2.2) A2 c2 ss)
    (fun s' => s'.2.1 = (vAt E f s.xs (ss.length - 1) s'.1 : Nat) ∧ s'.1 ≤ k ∧ ok (vAt E f s.xs (ss.length - 1) s'.1) ∧ Fit E s'.2.2 ∧ (∀ χ, dvg χ E s'.2.2 = dvg χ E f + M * (χ (vAt E f s.xs (ss.length - 1) s'.1) - χ (ss.length - 1))) ∧ ∀ j, s'.1 ≤ j → j < k → M ≤ (nth (arcsOf E s'.2.2) (nth s.xs (vAt E f s.xs (ss.length - 1) j)).toNat).fLeft)
    (fun s' => rank (vAt E f s.xs (ss.length - 1) s'.1)) (0, (ss.length : Int) - 1, f) (by repeat (first | exact trivial | refine ⟨rfl, ?_⟩)) ⟨by show (ss.length : Int) - 1 = ((ss.length - 1 : Nat) : Int); omega, Nat.zero_le _, hw.last, hft, fun χ => by show _ = _ + M * (χ (ss.length - 1) - χ (ss.length - 1)); rw [Int.sub_self, Int.mul_zero, Int.add_zero], fun j _ hj => (i5 j hj).2.2⟩ PSub.refl ?_
  rintro g2 ⟨k2, vI2, f2⟩ ⟨j1, j2, j3, j4, j5, j6⟩
  dsimp only at j1 j2 j3 j4 j5 j6 ⊢
  have hv1' := hw.lt _ j3
  have hvt' : vI2.toNat = vAt E f s.xs (ss.length - 1) k2 := by omega
  have hv0' : 0 ≤ vI2 := by omega
  have hv2' : vI2 < s.xs.length := by omega
  have hal2 := arcsOf_len j4.len
  have hcs : 0 ≤ nth s.xs vI2.toNat → _ := fun h => hw.cases j4.len j3 (by rw [← hvt']; exact h)
  rw [← hvt'] at hcs
  have hk2 : 0 ≤ nth s.xs vI2.toNat → k2 < k := fun h => by
    have : k2 ≠ k := fun e => by subst e; rw [hvt'] at h; omega
    omega
  have hq1 : 0 ≤ nth s.xs vI2.toNat → nth s.xs vI2.toNat < (arcsOf E f2).length := fun h => by
    obtain ⟨q, i, hi, hgi, e1, e2, _⟩ := hcs h
    omega
  have hq2 : 0 ≤ nth s.xs vI2.toNat → xor1 (nth s.xs vI2.toNat).toNat < (arcsOf E f2).length := fun h => by
    obtain ⟨q, i, hi, hgi, e1, e2, e3, _⟩ := hcs h
    rw [e1, Int.toNat_natCast]; omega
  have hq3 : 0 ≤ nth s.xs vI2.toNat → M ≤ (nth (arcsOf E f2) (nth s.xs vI2.toNat).toNat).fLeft := fun h => by
    have := j6 k2 (Nat.le_refl _) (hk2 h)
    rw [← hvt'] at this
    exact this
  have hq4 : 0 ≤ nth s.xs vI2.toNat → (nth (arcsOf E f2) (nth s.xs vI2.toNat).toNat).fLeft ≤ 1152921504606846976 := fun h => by
    obtain ⟨q, i, hi, hgi, e1, e2, e3, e4, e5, e6, e7, h7⟩ := hcs h
    have hb := j4.bd i hi hgi
    have hcp := hcap i hi
    unfold much13 at hcp
    rw [e1, Int.toNat_natCast]
    rcases h7 with ⟨rfl, _, _, h8, _⟩ | ⟨rfl, _, _, h8, _⟩ <;> rw [h8] <;> dsimp only <;> omega
  have hq5 : 0 ≤ nth s.xs vI2.toNat → (nth (arcsOf E f2) (xor1 (nth s.xs vI2.toNat).toNat)).fLeft ≤ 1152921504606846976 ∧ 0 ≤ (nth (arcsOf E f2) (xor1 (nth s.xs vI2.toNat).toNat)).fLeft := fun h => by
    obtain ⟨q, i, hi, hgi, e1, e2, e3, e4, e5, e6, e7, h7⟩ := hcs h
    have hb := j4.bd i hi hgi
    have hcp := hcap i hi
    unfold much13 at hcp
    rw [e1, Int.toNat_natCast]
    rcases h7 with ⟨rfl, _, _, _, h8⟩ | ⟨rfl, _, _, _, h8⟩ <;> rw [h8] <;> dsimp only <;> omega
  unfold much13 at i4
  (repeat' (first | refine s_move ?_ | refine s_assign ?_ | refine s_nil ?_ | (refine k_C ?_; first | refine s_seq ?_ | refine s_region ?_ | refine s_stillP foI rfl (by kernel_rfl) ?_ | refine s_skip ?_ | refine s_block ?_ | refine s_exit ?_ | refine s_ret ?_ | refine s_ift rfl ?_ | refine s_iff rfl ?_ | (refine s_ifd rfl ?_ ?_ <;> intro hc <;> try (exfalso; omega)) | (refine s_ifn rfl ?_ ?_ <;> intro hc <;> try (exfalso; omega)) | (refine s_if rfl ?_ ?_ <;> intro hc)) | (refine k_E ?_; first | refine e_seq ?_ | refine e_seq_ret ?_ | refine e_seq_exit ?_ | refine e_bk_exit ?_ | refine e_bk_ret ?_ | refine e_bk ?_ | refine e_bk_out rfl ?_ | refine e_lp_ret ?_ | refine e_lp_exit ?_ | refine e_ct_ret ?_ | refine e_ct_exit ?_) | (refine k_load ?_; first | refine s_ldB rfl rfl ?_ | refine s_ldBW rfl rfl ?_ | refine s_ldBA rfl (by decide) ?_ | refine s_ldRB rfl rfl ?_ | refine s_ldRBA rfl (by decide) ?_ | refine s_ld rfl om rfl ?_ | refine s_ldF rfl om rfl ?_ | refine s_ldA rfl om rfl ?_ | refine s_ldFA rfl om (by decide) ?_ | refine s_ldR rfl om rfl ?_ | refine s_ldS rfl rfl om rfl ?_ | refine s_ldSF rfl rfl om rfl ?_ | refine s_ldSA rfl rfl om rfl ?_ | refine s_ldSFA rfl rfl om (by decide) ?_) | (refine k_bin ?_; first | refine s_lss rfl rfl ?_ | refine s_add1 rfl rfl om ?_ | refine s_add64 rfl rfl om ?_ | refine s_sub64 rfl rfl om ?_ | refine s_eql rfl rfl ?_ | refine s_neq rfl rfl ?_ | refine s_gtr rfl rfl ?_ | refine s_geq rfl rfl ?_ | refine s_leq rfl rfl ?_ | refine s_beq rfl rfl ?_ | refine s_pnil rfl rfl ?_ | refine s_snil rfl rfl ?_ | refine s_bne rfl rfl ?_ | refine s_rem rfl rfl om ?_ | refine s_mul64 rfl rfl om ?_ | refine s_xor1 rfl rfl om ?_ | refine s_xor1I rfl rfl om om ?_) | (refine k_fld ?_; first | refine s_fld rfl ?_ | refine s_fldB rfl ?_) | (refine k_idx ?_; first | refine s_idx rfl rfl om ?_ | refine s_idxI rfl rfl om om ?_ | refine s_idxR rfl rfl om ?_ | refine s_idxRI rfl rfl om om ?_ | refine s_idxS rfl rfl om ?_ | refine s_idxSI rfl rfl om om ?_ | refine s_idxV (j := 0) rfl rfl (by decide) ?_ | refine s_idxV rfl rfl (by decide) ?_) | (refine k_store ?_; first | refine s_stW _ rfl rfl ?_ | refine s_st _ rfl rfl om ?_ | refine s_stB _ rfl rfl rfl (by decide) ?_) | (refine k_call ?_; first | refine s_len rfl ?_ | refine s_min rfl rfl ?_ | refine s_max rfl rfl ?_ | (refine s_appS rfl rfl om ?_; intro A c) | (refine s_appO rfl rfl om ?_; intro A c)) | (refine k_guard ?_; first | refine s_on rfl rfl ?_ | refine s_off rfl rfl rfl rfl ?_ | refine s_offU rfl rfl rfl rfl ?_ | (refine s_casesd rfl rfl ?_ ?_ <;> intro hc <;> try (exfalso; omega)) | (refine s_casesn rfl rfl ?_ ?_ <;> intro hc <;> try (exfalso; omega)) | (refine s_cases rfl rfl ?_ ?_ <;> intro hc)) | refine s_func (v1 := []) (v2 := [.pointer _]) rfl rfl ?_ | refine s_func (v1 := []) (v2 := []) rfl rfl ?_ | refine s_putW (yv := true) rfl rfl rfl trivial om ?_ | refine s_putIW (yv := true) rfl rfl rfl trivial om ?_ | refine s_lookW rfl rfl ?_ | refine s_lookSW rfl rfl ?_ | (refine s_alloc ?_; intro b) | (refine s_box _ rfl ?_; intro b) | (refine s_make rfl rfl om ?_; intro b) | (refine s_makeI rfl rfl om om ?_; intro b) | refine s_cutH rfl rfl om om ?_ | (refine s_cutL rfl rfl om ?_; intro A) | refine s_not rfl ?_ | refine s_pick rfl ?_ | refine s_extract rfl rfl ?_ | refine s_nilck rfl ?_ | (refine s_app1 _ (fun _ => rfl) rfl om ?_; intro v A c) | (refine s_app1N _ (fun _ => rfl) rfl (by decide) ?_; intro v A c) | (refine s_mkmapB ?_; intro b) | (refine s_mkmapI ?_; intro b) | (refine s_lit [] rfl (by decide) rfl ?_; intro b) | (refine s_lit [_] rfl (by decide) rfl ?_; intro b) | (refine s_lit [_, _] rfl (by decide) rfl ?_; intro b) | (refine s_lit [_, _, _] rfl (by decide) rfl ?_; intro b)))
  · have hq1 := hq1 hc
    have hq2 := hq2 hc
    have hq3 := hq3 hc
    have hq4 := hq4 hc
    obtain ⟨hq5, hq6⟩ := hq5 hc
    obtain ⟨qq, ii, hii, hgii, d1, d2, d3, d4, d5, d6, d7, _⟩ := hcs hc
    have hne : ¬ xor1 (nth s.xs vI2.toNat).toNat = (nth s.xs vI2.toNat).toNat := by rw [d1, Int.toNat_natCast]; exact d4
    refine s_tail (F := ?F) 13 [0, 1, 2, 3, 4, 5, 6, 7, 8, 9, 10, 11, 12] foI (by kernel_rfl) ?hread ?hrest
    case hread =>
      change sO _ _ _ _ _ _ (_ :: _ :: _ :: _ :: _ :: _ :: _ :: _ :: _ :: _ :: _ :: _ :: _ :: []) _ _ _
      (repeat' (first | refine s_move ?_ | refine s_assign ?_ | refine s_nil ?_ | (refine k_C ?_; first | refine s_seq ?_ | refine s_region ?_ | refine s_stillP foI rfl (by kernel_rfl) ?_ | refine s_skip ?_ | refine s_block ?_ | refine s_exit ?_ | refine s_ret ?_ | refine s_ift rfl ?_ | refine s_iff rfl ?_ | (refine s_ifd rfl ?_ ?_ <;> intro hc <;> try (exfalso; omega)) | (refine s_ifn rfl ?_ ?_ <;> intro hc <;> try (exfalso; omega)) | (refine s_if rfl ?_ ?_ <;> intro hc)) | (refine k_E ?_; first | refine e_seq ?_ | refine e_seq_ret ?_ | refine e_seq_exit ?_ | refine e_bk_exit ?_ | refine e_bk_ret ?_ | refine e_bk ?_ | refine e_bk_out rfl ?_ | refine e_lp_ret ?_ | refine e_lp_exit ?_ | refine e_ct_ret ?_ | refine e_ct_exit ?_) | (refine k_load ?_; first | refine s_ldB rfl rfl ?_ | refine s_ldBW rfl rfl ?_ | refine s_ldBA rfl (by decide) ?_ | refine s_ldRB rfl rfl ?_ | refine s_ldRBA rfl (by decide) ?_ | refine s_ld rfl om rfl ?_ | refine s_ldF rfl om rfl ?_ | refine s_ldA rfl om rfl ?_ | refine s_ldFA rfl om (by decide) ?_ | refine s_ldR rfl om rfl ?_ | refine s_ldS rfl rfl om rfl ?_ | refine s_ldSF rfl rfl om rfl ?_ | refine s_ldSA rfl rfl om rfl ?_ | refine s_ldSFA rfl rfl om (by decide) ?_) | (refine k_bin ?_; first | refine s_lss rfl rfl ?_ | refine s_add1 rfl rfl om ?_ | refine s_add64 rfl rfl om ?_ | refine s_sub64 rfl rfl om ?_ | refine s_eql rfl rfl ?_ | refine s_neq rfl rfl ?_ | refine s_gtr rfl rfl ?_ | refine s_geq rfl rfl ?_ | refine s_leq rfl rfl ?_ | refine s_beq rfl rfl ?_ | refine s_pnil rfl rfl ?_ | refine s_snil rfl rfl ?_ | refine s_bne rfl rfl ?_ | refine s_rem rfl rfl om ?_ | refine s_mul64 rfl rfl om ?_ | refine s_xor1 rfl rfl om ?_ | refine s_xor1I rfl rfl om om ?_) | (refine k_fld ?_; first | refine s_fld rfl ?_ | refine s_fldB rfl ?_) | (refine k_idx ?_; first | refine s_idx rfl rfl om ?_ | refine s_idxI rfl rfl om om ?_ | refine s_idxR rfl rfl om ?_ | refine s_idxRI rfl rfl om om ?_ | refine s_idxS rfl rfl om ?_ | refine s_idxSI rfl rfl om om ?_ | refine s_idxV (j := 0) rfl rfl (by decide) ?_ | refine s_idxV rfl rfl (by decide) ?_) | (refine k_store ?_; first | refine s_stW _ rfl rfl ?_ | refine s_st _ rfl rfl om ?_ | refine s_stB _ rfl rfl rfl (by decide) ?_) | (refine k_call ?_; first | refine s_len rfl ?_ | refine s_min rfl rfl ?_ | refine s_max rfl rfl ?_ | (refine s_appS rfl rfl om ?_; intro A c) | (refine s_appO rfl rfl om ?_; intro A c)) | (refine k_guard ?_; first | refine s_on rfl rfl ?_ | refine s_off rfl rfl rfl rfl ?_ | refine s_offU rfl rfl rfl rfl ?_ | (refine s_casesd rfl rfl ?_ ?_ <;> intro hc <;> try (exfalso; omega)) | (refine s_casesn rfl rfl ?_ ?_ <;> intro hc <;> try (exfalso; omega)) | (refine s_cases rfl rfl ?_ ?_ <;> intro hc)) | refine s_func (v1 := []) (v2 := [.pointer _]) rfl rfl ?_ | refine s_func (v1 := []) (v2 := []) rfl rfl ?_ | refine s_putW (yv := true) rfl rfl rfl trivial om ?_ | refine s_putIW (yv := true) rfl rfl rfl trivial om ?_ | refine s_lookW rfl rfl ?_ | refine s_lookSW rfl rfl ?_ | (refine s_alloc ?_; intro b) | (refine s_box _ rfl ?_; intro b) | (refine s_make rfl rfl om ?_; intro b) | (refine s_makeI rfl rfl om om ?_; intro b) | refine s_cutH rfl rfl om om ?_ | (refine s_cutL rfl rfl om ?_; intro A) | refine s_not rfl ?_ | refine s_pick rfl ?_ | refine s_extract rfl rfl ?_ | refine s_nilck rfl ?_ | (refine s_app1 _ (fun _ => rfl) rfl om ?_; intro v A c) | (refine s_app1N _ (fun _ => rfl) rfl (by decide) ?_; intro v A c) | (refine s_mkmapB ?_; intro b) | (refine s_mkmapI ?_; intro b) | (refine s_lit [] rfl (by decide) rfl ?_; intro b) | (refine s_lit [_] rfl (by decide) rfl ?_; intro b) | (refine s_lit [_, _] rfl (by decide) rfl ?_; intro b) | (refine s_lit [_, _, _] rfl (by decide) rfl ?_; intro b)))
      exact e_F
    change sO _ _ _ _ _ _ (_ :: _ :: _ :: []) _ _ _
    (repeat' (first | refine s_move ?_ | refine s_assign ?_ | refine s_nil ?_ | (refine k_C ?_; first | refine s_seq ?_ | refine s_region ?_ | refine s_stillP foI rfl (by kernel_rfl) ?_ | refine s_skip ?_ | refine s_block ?_ | refine s_exit ?_ | refine s_ret ?_ | refine s_ift rfl ?_ | refine s_iff rfl ?_ | (refine s_ifd rfl ?_ ?_ <;> intro hc <;> try (exfalso; omega)) | (refine s_ifn rfl ?_ ?_ <;> intro hc <;> try (exfalso; omega)) | (refine s_if rfl ?_ ?_ <;> intro hc)) | (refine k_E ?_; first | refine e_seq ?_ | refine e_seq_ret ?_ | refine e_seq_exit ?_ | refine e_bk_exit ?_ | refine e_bk_ret ?_ | refine e_bk ?_ | refine e_bk_out rfl ?_ | refine e_lp_ret ?_ | refine e_lp_exit ?_ | refine e_ct_ret ?_ | refine e_ct_exit ?_) | (refine k_load ?_; first | refine s_ldB rfl rfl ?_ | refine s_ldBW rfl rfl ?_ | refine s_ldBA rfl (by decide) ?_ | refine s_ldRB rfl rfl ?_ | refine s_ldRBA rfl (by decide) ?_ | refine s_ld rfl om rfl ?_ | refine s_ldF rfl om rfl ?_ | refine s_ldA rfl om rfl ?_ | refine s_ldFA rfl om (by decide) ?_ | refine s_ldR rfl om rfl ?_ | refine s_ldS rfl rfl om rfl ?_ | refine s_ldSF rfl rfl om rfl ?_ | refine s_ldSA rfl rfl om rfl ?_ | refine s_ldSFA rfl rfl om (by decide) ?_) | (refine k_bin ?_; first | refine s_lss rfl rfl ?_ | refine s_add1 rfl rfl om ?_ | refine s_add64 rfl rfl om ?_ | refine s_sub64 rfl rfl om ?_ | refine s_eql rfl rfl ?_ | refine s_neq rfl rfl ?_ | refine s_gtr rfl rfl ?_ | refine s_geq rfl rfl ?_ | refine s_leq rfl rfl ?_ | refine s_beq rfl rfl ?_ | refine s_pnil rfl rfl ?_ | refine s_snil rfl rfl ?_ | refine s_bne rfl rfl ?_ | refine s_rem rfl rfl om ?_ | refine s_mul64 rfl rfl om ?_ | refine s_xor1 rfl rfl om ?_ | refine s_xor1I rfl rfl om om ?_) | (refine k_fld ?_; first | refine s_fld rfl ?_ | refine s_fldB rfl ?_) | (refine k_idx ?_; first | refine s_idx rfl rfl om ?_ | refine s_idxI rfl rfl om om ?_ | refine s_idxR rfl rfl om ?_ | refine s_idxRI rfl rfl om om ?_ | refine s_idxS rfl rfl om ?_ | refine s_idxSI rfl rfl om om ?_ | refine s_idxV (j := 0) rfl rfl (by decide) ?_ | refine s_idxV rfl rfl (by decide) ?_) | (refine k_store ?_; first | refine s_stW _ rfl rfl ?_ | refine s_st _ rfl rfl om ?_ | refine s_stB _ rfl rfl rfl (by decide) ?_) | (refine k_call ?_; first | refine s_len rfl ?_ | refine s_min rfl rfl ?_ | refine s_max rfl rfl ?_ | (refine s_appS rfl rfl om ?_; intro A c) | (refine s_appO rfl rfl om ?_; intro A c)) | (refine k_guard ?_; first | refine s_on rfl rfl ?_ | refine s_off rfl rfl rfl rfl ?_ | refine s_offU rfl rfl rfl rfl ?_ | (refine s_casesd rfl rfl ?_ ?_ <;> intro hc <;> try (exfalso; omega)) | (refine s_casesn rfl rfl ?_ ?_ <;> intro hc <;> try (exfalso; omega)) | (refine s_cases rfl rfl ?_ ?_ <;> intro hc)) | refine s_func (v1 := []) (v2 := [.pointer _]) rfl rfl ?_ | refine s_func (v1 := []) (v2 := []) rfl rfl ?_ | refine s_putW (yv := true) rfl rfl rfl trivial om ?_ | refine s_putIW (yv := true) rfl rfl rfl trivial om ?_ | refine s_lookW rfl rfl ?_ | refine s_lookSW rfl rfl ?_ | (refine s_alloc ?_; intro b) | (refine s_box _ rfl ?_; intro b) | (refine s_make rfl rfl om ?_; intro b) | (refine s_makeI rfl rfl om om ?_; intro b) | refine s_cutH rfl rfl om om ?_ | (refine s_cutL rfl rfl om ?_; intro A) | refine s_not rfl ?_ | refine s_pick rfl ?_ | refine s_extract rfl rfl ?_ | refine s_nilck rfl ?_ | (refine s_app1 _ (fun _ => rfl) rfl om ?_; intro v A c) | (refine s_app1N _ (fun _ => rfl) rfl (by decide) ?_; intro v A c) | (refine s_mkmapB ?_; intro b) | (refine s_mkmapI ?_; intro b) | (refine s_lit [] rfl (by decide) rfl ?_; intro b) | (refine s_lit [_] rfl (by decide) rfl ?_; intro b) | (refine s_lit [_, _] rfl (by decide) rfl ?_; intro b) | (refine s_lit [_, _, _] rfl (by decide) rfl ?_; intro b)))
    refine s_stF (⟨(nth (arcsOf E f2) (nth s.xs vI2.toNat).toNat).fTo, (nth (arcsOf E f2) (nth s.xs vI2.toNat).toNat).fLeft - M⟩ : CutArc) rfl rfl (by rfl) (by decide) (by omega) ?_
    have hx1 : nth ((arcsOf E f2).set (nth s.xs vI2.toNat).toNat (⟨(nth (arcsOf E f2) (nth s.xs vI2.toNat).toNat).fTo, (nth (arcsOf E f2) (nth s.xs vI2.toNat).toNat).fLeft - M⟩ : CutArc)) (xor1 (nth s.xs vI2.toNat).toNat) = nth (arcsOf E f2) (xor1 (nth s.xs vI2.toNat).toNat) := by
      rw [nth_set (by omega), if_neg hne]
    have hx2 : (nth ((arcsOf E f2).set (nth s.xs vI2.toNat).toNat (⟨(nth (arcsOf E f2) (nth s.xs vI2.toNat).toNat).fTo, (nth (arcsOf E f2) (nth s.xs vI2.toNat).toNat).fLeft - M⟩ : CutArc)) (xor1 (nth s.xs vI2.toNat).toNat)).fLeft = (nth (arcsOf E f2) (xor1 (nth s.xs vI2.toNat).toNat)).fLeft := by rw [hx1]
    refine s_nil (e_seq ?_)
    refine s_tail (F := ?F2) 14 [0, 1, 2, 3, 4, 5, 6, 7, 8, 9, 10, 11, 12, 13] foI (by kernel_rfl) ?hread2 ?hrest2
    case hread2 =>
      change sO _ _ _ _ _ _ (_ :: _ :: _ :: _ :: _ :: _ :: _ :: _ :: _ :: _ :: _ :: _ :: _ :: _ :: []) _ _ _
      (repeat' (first | refine s_move ?_ | refine s_assign ?_ | refine s_nil ?_ | (refine k_C ?_; first | refine s_seq ?_ | refine s_region ?_ | refine s_stillP foI rfl (by kernel_rfl) ?_ | refine s_skip ?_ | refine s_block ?_ | refine s_exit ?_ | refine s_ret ?_ | refine s_ift rfl ?_ | refine s_iff rfl ?_ | (refine s_ifd rfl ?_ ?_ <;> intro hc <;> try (exfalso; omega)) | (refine s_ifn rfl ?_ ?_ <;> intro hc <;> try (exfalso; omega)) | (refine s_if rfl ?_ ?_ <;> intro hc)) | (refine k_E ?_; first | refine e_seq ?_ | refine e_seq_ret ?_ | refine e_seq_exit ?_ | refine e_bk_exit ?_ | refine e_bk_ret ?_ | refine e_bk ?_ | refine e_bk_out rfl ?_ | refine e_lp_ret ?_ | refine e_lp_exit ?_ | refine e_ct_ret ?_ | refine e_ct_exit ?_) | (refine k_load ?_; first | refine s_ldB rfl rfl ?_ | refine s_ldBW rfl rfl ?_ | refine s_ldBA rfl (by decide) ?_ | refine s_ldRB rfl rfl ?_ | refine s_ldRBA rfl (by decide) ?_ | refine s_ld rfl om rfl ?_ | refine s_ldF rfl om rfl ?_ | refine s_ldA rfl om rfl ?_ | refine s_ldFA rfl om (by decide) ?_ | refine s_ldR rfl om rfl ?_ | refine s_ldS rfl rfl om rfl ?_ | refine s_ldSF rfl rfl om rfl ?_ | refine s_ldSA rfl rfl om rfl ?_ | refine s_ldSFA rfl rfl om (by decide) ?_) | (refine k_bin ?_; first | refine s_lss rfl rfl ?_ | refine s_add1 rfl rfl om ?_ | refine s_add64 rfl rfl om ?_ | refine s_sub64 rfl rfl om ?_ | refine s_eql rfl rfl ?_ | refine s_neq rfl rfl ?_ | refine s_gtr rfl rfl ?_ | refine s_geq rfl rfl ?_ | refine s_leq rfl rfl ?_ | refine s_beq rfl rfl ?_ | refine s_pnil rfl rfl ?_ | refine s_snil rfl rfl ?_ | refine s_bne rfl rfl ?_ | refine s_rem rfl rfl om ?_ | refine s_mul64 rfl rfl om ?_ | refine s_xor1 rfl rfl om ?_ | refine s_xor1I rfl rfl om om ?_) | (refine k_fld ?_; first | refine s_fld rfl ?_ | refine s_fldB rfl ?_) | (refine k_idx ?_; first | refine s_idx rfl rfl om ?_ | refine s_idxI rfl rfl om om ?_ | refine s_idxR rfl rfl om ?_ | refine s_idxRI rfl rfl om om ?_ | refine s_idxS rfl rfl om ?_ | refine s_idxSI rfl rfl om om ?_ | refine s_idxV (j := 0) rfl rfl (by decide) ?_ | refine s_idxV rfl rfl (by decide) ?_) | (refine k_store ?_; first | refine s_stW _ rfl rfl ?_ | refine s_st _ rfl rfl om ?_ | refine s_stB _ rfl rfl rfl (by decide) ?_) | (refine k_call ?_; first | refine s_len rfl ?_ | refine s_min rfl rfl ?_ | refine s_max rfl rfl ?_ | (refine s_appS rfl rfl om ?_; intro A c) | (refine s_appO rfl rfl om ?_; intro A c)) | (refine k_guard ?_; first | refine s_on rfl rfl ?_ | refine s_off rfl rfl rfl rfl ?_ | refine s_offU rfl rfl rfl rfl ?_ | (refine s_casesd rfl rfl ?_ ?_ <;> intro hc <;> try (exfalso; omega)) | (refine s_casesn rfl rfl ?_ ?_ <;> intro hc <;> try (exfalso; omega)) | (refine s_cases rfl rfl ?_ ?_ <;> intro hc)) | refine s_func (v1 := []) (v2 := [.pointer _]) rfl rfl ?_ | refine s_func (v1 := []) (v2 := []) rfl rfl ?_ | refine s_putW (yv := true) rfl rfl rfl trivial om ?_ | refine s_putIW (yv := true) rfl rfl rfl trivial om ?_ | refine s_lookW rfl rfl ?_ | refine s_lookSW rfl rfl ?_ | (refine s_alloc ?_; intro b) | (refine s_box _ rfl ?_; intro b) | (refine s_make rfl rfl om ?_; intro b) | (refine s_makeI rfl rfl om om ?_; intro b) | refine s_cutH rfl rfl om om ?_ | (refine s_cutL rfl rfl om ?_; intro A) | refine s_not rfl ?_ | refine s_pick rfl ?_ | refine s_extract rfl rfl ?_ | refine s_nilck rfl ?_ | (refine s_app1 _ (fun _ => rfl) rfl om ?_; intro v A c) | (refine s_app1N _ (fun _ => rfl) rfl (by decide) ?_; intro v A c) | (refine s_mkmapB ?_; intro b) | (refine s_mkmapI ?_; intro b) | (refine s_lit [] rfl (by decide) rfl ?_; intro b) | (refine s_lit [_] rfl (by decide) rfl ?_; intro b) | (refine s_lit [_, _] rfl (by decide) rfl ?_; intro b) | (refine s_lit [_, _, _] rfl (by decide) rfl ?_; intro b)))
      exact e_F
    change sO _ _ _ _ _ _ (_ :: _ :: _ :: []) _ _ _
    (repeat' (first | refine s_move ?_ | refine s_assign ?_ | refine s_nil ?_ | (refine k_C ?_; first | refine s_seq ?_ | refine s_region ?_ | refine s_stillP foI rfl (by kernel_rfl) ?_ | refine s_skip ?_ | refine s_block ?_ | refine s_exit ?_ | refine s_ret ?_ | refine s_ift rfl ?_ | refine s_iff rfl ?_ | (refine s_ifd rfl ?_ ?_ <;> intro hc <;> try (exfalso; omega)) | (refine s_ifn rfl ?_ ?_ <;> intro hc <;> try (exfalso; omega)) | (refine s_if rfl ?_ ?_ <;> intro hc)) | (refine k_E ?_; first | refine e_seq ?_ | refine e_seq_ret ?_ | refine e_seq_exit ?_ | refine e_bk_exit ?_ | refine e_bk_ret ?_ | refine e_bk ?_ | refine e_bk_out rfl ?_ | refine e_lp_ret ?_ | refine e_lp_exit ?_ | refine e_ct_ret ?_ | refine e_ct_exit ?_) | (refine k_load ?_; first | refine s_ldB rfl rfl ?_ | refine s_ldBW rfl rfl ?_ | refine s_ldBA rfl (by decide) ?_ | refine s_ldRB rfl rfl ?_ | refine s_ldRBA rfl (by decide) ?_ | refine s_ld rfl om rfl ?_ | refine s_ldF rfl om rfl ?_ | refine s_ldA rfl om rfl ?_ | refine s_ldFA rfl om (by decide) ?_ | refine s_ldR rfl om rfl ?_ | refine s_ldS rfl rfl om rfl ?_ | refine s_ldSF rfl rfl om rfl ?_ | refine s_ldSA rfl rfl om rfl ?_ | refine s_ldSFA rfl rfl om (by decide) ?_) | (refine k_bin ?_; first | refine s_lss rfl rfl ?_ | refine s_add1 rfl rfl om ?_ | refine s_add64 rfl rfl om ?_ | refine s_sub64 rfl rfl om ?_ | refine s_eql rfl rfl ?_ | refine s_neq rfl rfl ?_ | refine s_gtr rfl rfl ?_ | refine s_geq rfl rfl ?_ | refine s_leq rfl rfl ?_ | refine s_beq rfl rfl ?_ | refine s_pnil rfl rfl ?_ | refine s_snil rfl rfl ?_ | refine s_bne rfl rfl ?_ | refine s_rem rfl rfl om ?_ | refine s_mul64 rfl rfl om ?_ | refine s_xor1 rfl rfl om ?_ | refine s_xor1I rfl rfl om om ?_) | (refine k_fld ?_; first | refine s_fld rfl ?_ | refine s_fldB rfl ?_) | (refine k_idx ?_; first | refine s_idx rfl rfl om ?_ | refine s_idxI rfl rfl om om ?_ | refine s_idxR rfl rfl om ?_ | refine s_idxRI rfl rfl om om ?_ | refine s_idxS rfl rfl om ?_ | refine s_idxSI rfl rfl om om ?_ | refine s_idxV (j := 0) rfl rfl (by decide) ?_ | refine s_idxV rfl rfl (by decide) ?_) | (refine k_store ?_; first | refine s_stW _ rfl rfl ?_ | refine s_st _ rfl rfl om ?_ | refine s_stB _ rfl rfl rfl (by decide) ?_) | (refine k_call ?_; first | refine s_len rfl ?_ | refine s_min rfl rfl ?_ | refine s_max rfl rfl ?_ | (refine s_appS rfl rfl om ?_; intro A c) | (refine s_appO rfl rfl om ?_; intro A c)) | (refine k_guard ?_; first | refine s_on rfl rfl ?_ | refine s_off rfl rfl rfl rfl ?_ | refine s_offU rfl rfl rfl rfl ?_ | (refine s_casesd rfl rfl ?_ ?_ <;> intro hc <;> try (exfalso; omega)) | (refine s_casesn rfl rfl ?_ ?_ <;> intro hc <;> try (exfalso; omega)) | (refine s_cases rfl rfl ?_ ?_ <;> intro hc)) | refine s_func (v1 := []) (v2 := [.pointer _]) rfl rfl ?_ | refine s_func (v1 := []) (v2 := []) rfl rfl ?_ | refine s_putW (yv := true) rfl rfl rfl trivial om ?_ | refine s_putIW (yv := true) rfl rfl rfl trivial om ?_ | refine s_lookW rfl rfl ?_ | refine s_lookSW rfl rfl ?_ | (refine s_alloc ?_; intro b) | (refine s_box _ rfl ?_; intro b) | (refine s_make rfl rfl om ?_; intro b) | (refine s_makeI rfl rfl om om ?_; intro b) | refine s_cutH rfl rfl om om ?_ | (refine s_cutL rfl rfl om ?_; intro A) | refine s_not rfl ?_ | refine s_pick rfl ?_ | refine s_extract rfl rfl ?_ | refine s_nilck rfl ?_ | (refine s_app1 _ (fun _ => rfl) rfl om ?_; intro v A c) | (refine s_app1N _ (fun _ => rfl) rfl (by decide) ?_; intro v A c) | (refine s_mkmapB ?_; intro b) | (refine s_mkmapI ?_; intro b) | (refine s_lit [] rfl (by decide) rfl ?_; intro b) | (refine s_lit [_] rfl (by decide) rfl ?_; intro b) | (refine s_lit [_, _] rfl (by decide) rfl ?_; intro b) | (refine s_lit [_, _, _] rfl (by decide) rfl ?_; intro b)))
    refine s_stF (⟨(nth (arcsOf E f2) (xor1 (nth s.xs vI2.toNat).toNat)).fTo, (nth (arcsOf E f2) (xor1 (nth s.xs vI2.toNat).toNat)).fLeft + M⟩ : CutArc) rfl rfl (by rw [hx1]; rfl) (by decide) (by omega) ?_
    have ok2 : ok vI2.toNat := by rw [hvt']; exact j3
    obtain ⟨f3, p1, p2, p3, p4⟩ := hw.push j4 ok2 hc (by omega : 0 ≤ M) hq3
    have hal3 := arcsOf_len p1.len
    have hl3 : (arcsOf E f3).length = (arcsOf E f2).length := by omega
    rw [p2]
    refine so_sub (L' := fl13 b0 A1 c1 (arcsOf E f3) A2 c2 ss) (PSub.eq ?_) ?_
    · show [_, _, _, _] = [_, own _ _ (arcsOf E f3).length _ _, _, _]
      rw [hl3]
      have e1 : var 57 b0 (⟨⟨A1, c1, arcsOf E f2⟩, ⟨A2, c2, ss⟩⟩ : CutFlow) = var 57 b0 (⟨⟨A1, c1, arcsOf E f3⟩, ⟨A2, c2, ss⟩⟩ : CutFlow) := var_congr (by show [Value.slice _ _ _, Value.slice _ _ _] = [Value.slice _ _ _, Value.slice _ _ _]; rw [hl3])
      rw [← e1]
    have hq7 : xor1 (nth s.xs vI2.toNat).toNat < (arcsOf E f3).length := by omega
    have hq8 : nth s.xs vI2.toNat < (arcsOf E f3).length := by omega
    (repeat' (first | refine s_move ?_ | refine s_assign ?_ | refine s_nil ?_ | (refine k_C ?_; first | refine s_seq ?_ | refine s_region ?_ | refine s_stillP foI rfl (by kernel_rfl) ?_ | refine s_skip ?_ | refine s_block ?_ | refine s_exit ?_ | refine s_ret ?_ | refine s_ift rfl ?_ | refine s_iff rfl ?_ | (refine s_ifd rfl ?_ ?_ <;> intro hc <;> try (exfalso; omega)) | (refine s_ifn rfl ?_ ?_ <;> intro hc <;> try (exfalso; omega)) | (refine s_if rfl ?_ ?_ <;> intro hc)) | (refine k_E ?_; first | refine e_seq ?_ | refine e_seq_ret ?_ | refine e_seq_exit ?_ | refine e_bk_exit ?_ | refine e_bk_ret ?_ | refine e_bk ?_ | refine e_bk_out rfl ?_ | refine e_lp_ret ?_ | refine e_lp_exit ?_ | refine e_ct_ret ?_ | refine e_ct_exit ?_) | (refine k_load ?_; first | refine s_ldB rfl rfl ?_ | refine s_ldBW rfl rfl ?_ | refine s_ldBA rfl (by decide) ?_ | refine s_ldRB rfl rfl ?_ | refine s_ldRBA rfl (by decide) ?_ | refine s_ld rfl om rfl ?_ | refine s_ldF rfl om rfl ?_ | refine s_ldA rfl om rfl ?_ | refine s_ldFA rfl om (by decide) ?_ | refine s_ldR rfl om rfl ?_ | refine s_ldS rfl rfl om rfl ?_ | refine s_ldSF rfl rfl om rfl ?_ | refine s_ldSA rfl rfl om rfl ?_ | refine s_ldSFA rfl rfl om (by decide) ?_) | (refine k_bin ?_; first | refine s_lss rfl rfl ?_ | refine s_add1 rfl rfl om ?_ | refine s_add64 rfl rfl om ?_ | refine s_sub64 rfl rfl om ?_ | refine s_eql rfl rfl ?_ | refine s_neq rfl rfl ?_ | refine s_gtr rfl rfl ?_ | refine s_geq rfl rfl ?_ | refine s_leq rfl rfl ?_ | refine s_beq rfl rfl ?_ | refine s_pnil rfl rfl ?_ | refine s_snil rfl rfl ?_ | refine s_bne rfl rfl ?_ | refine s_rem rfl rfl om ?_ | refine s_mul64 rfl rfl om ?_ | refine s_xor1 rfl rfl om ?_ | refine s_xor1I rfl rfl om om ?_) | (refine k_fld ?_; first | refine s_fld rfl ?_ | refine s_fldB rfl ?_) | (refine k_idx ?_; first | refine s_idx rfl rfl om ?_ | refine s_idxI rfl rfl om om ?_ | refine s_idxR rfl rfl om ?_ | refine s_idxRI rfl rfl om om ?_ | refine s_idxS rfl rfl om ?_ | refine s_idxSI rfl rfl om om ?_ | refine s_idxV (j := 0) rfl rfl (by decide) ?_ | refine s_idxV rfl rfl (by decide) ?_) | (refine k_store ?_; first | refine s_stW _ rfl rfl ?_ | refine s_st _ rfl rfl om ?_ | refine s_stB _ rfl rfl rfl (by decide) ?_) | (refine k_call ?_; first | refine s_len rfl ?_ | refine s_min rfl rfl ?_ | refine s_max rfl rfl ?_ | (refine s_appS rfl rfl om ?_; intro A c) | (refine s_appO rfl rfl om ?_; intro A c)) | (refine k_guard ?_; first | refine s_on rfl rfl ?_ | refine s_off rfl rfl rfl rfl ?_ | refine s_offU rfl rfl rfl rfl ?_ | (refine s_casesd rfl rfl ?_ ?_ <;> intro hc <;> try (exfalso; omega)) | (refine s_casesn rfl rfl ?_ ?_ <;> intro hc <;> try (exfalso; omega)) | (refine s_cases rfl rfl ?_ ?_ <;> intro hc)) | refine s_func (v1 := []) (v2 := [.pointer _]) rfl rfl ?_ | refine s_func (v1 := []) (v2 := []) rfl rfl ?_ | refine s_putW (yv := true) rfl rfl rfl trivial om ?_ | refine s_putIW (yv := true) rfl rfl rfl trivial om ?_ | refine s_lookW rfl rfl ?_ | refine s_lookSW rfl rfl ?_ | (refine s_alloc ?_; intro b) | (refine s_box _ rfl ?_; intro b) | (refine s_make rfl rfl om ?_; intro b) | (refine s_makeI rfl rfl om om ?_; intro b) | refine s_cutH rfl rfl om om ?_ | (refine s_cutL rfl rfl om ?_; intro A) | refine s_not rfl ?_ | refine s_pick rfl ?_ | refine s_extract rfl rfl ?_ | refine s_nilck rfl ?_ | (refine s_app1 _ (fun _ => rfl) rfl om ?_; intro v A c) | (refine s_app1N _ (fun _ => rfl) rfl (by decide) ?_; intro v A c) | (refine s_mkmapB ?_; intro b) | (refine s_mkmapI ?_; intro b) | (refine s_lit [] rfl (by decide) rfl ?_; intro b) | (refine s_lit [_] rfl (by decide) rfl ?_; intro b) | (refine s_lit [_, _] rfl (by decide) rfl ?_; intro b) | (refine s_lit [_, _, _] rfl (by decide) rfl ?_; intro b)))
    have e8 : tl13 E f2 s.xs vI2.toNat = vAt E f s.xs (ss.length - 1) (k2 + 1) := by
      rw [tl13_any hw hft.len j4.len ok2 hc, hvt']; rfl
    obtain ⟨qq', ii', hii', hgii', d1', d2', d3', d4', d5', d6', d7', _⟩ := hw.cases p1.len ok2 hc
    have e9 : tl13 E f3 s.xs vI2.toNat = vAt E f s.xs (ss.length - 1) (k2 + 1) := by
      rw [tl13_any hw hft.len p1.len ok2 hc, hvt']; rfl
    refine e_lp (k2 + 1, (nth (arcsOf E f3) (xor1 (nth s.xs vI2.toNat).toNat)).fTo, f3) (by repeat (first | exact trivial | refine ⟨rfl, ?_⟩)) ⟨?_, hk2 hc, ?_, p1, fun χ => ?_, fun j hj hjk => ?_⟩ ?_ PSub.refl
    · show (nth (arcsOf E f3) (xor1 (nth s.xs vI2.toNat).toNat)).fTo = _
      rw [d1', Int.toNat_natCast, d7', e9]
    · show ok (vAt E f s.xs (ss.length - 1) (k2 + 1))
      rw [← e8]; exact d5
    · rw [p3 χ, j5 χ, e8, hvt', Int.add_assoc, ← Int.mul_add]
      show _ + M * _ = _ + M * (χ (vAt E f s.xs (ss.length - 1) (k2 + 1)) - _)
      congr 2; omega
    · have hj : k2 < j := hj
      obtain ⟨a1, a2, a3⟩ := i5 j hjk
      refine Int.le_trans (j6 j (by omega) hjk) (p4 _ a1 a2 fun e => ?_)
      have hr : ∀ d, k2 + d < k → rank (vAt E f s.xs (ss.length - 1) (k2 + d + 1)) < rank (vAt E f s.xs (ss.length - 1) (k2 + d)) := fun d hd => by
        obtain ⟨b1, b2, b3⟩ := i5 (k2 + d) hd
        obtain ⟨_, _, _, _, _, _, _, _, _, b4, _⟩ := hw.cases hft.len b1 b2
        exact b4
      have hr2 : ∀ d, k2 + d < k → 0 < d → rank (vAt E f s.xs (ss.length - 1) (k2 + d)) < rank (vAt E f s.xs (ss.length - 1) k2) := by
        intro d
        induction d with
        | zero => intro _ h; omega
        | succ d ih =>
          intro hd _
          have h1 := hr d (by omega)
          by_cases hd0 : d = 0
          · subst hd0; exact h1
          · have h2 := ih (by omega) (by omega)
            exact Nat.lt_trans h1 h2
      have := hr2 (j - k2) (by omega) (by omega)
      rw [show k2 + (j - k2) = j by omega, e, hvt'] at this
      omega
    · show rank (vAt E f s.xs (ss.length - 1) (k2 + 1)) < rank (vAt E f s.xs (ss.length - 1) k2)
      rw [← e8, ← hvt']; exact d6
  · have hlast : vAt E f s.xs (ss.length - 1) k2 = ss.length - 2 := hw.neg _ j3 (by rw [← hvt']; omega)
    refine e_done0N rfl _ PSub.refl ⟨rfl, f2, M, j4, by omega, fun _ => i3, fun χ => ?_, rfl⟩
    rw [j5 χ, hlast]
end Go.Proofs.Ytmmjecopcjkeaaa
