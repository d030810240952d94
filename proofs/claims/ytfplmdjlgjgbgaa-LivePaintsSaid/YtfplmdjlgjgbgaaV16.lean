/- Layer 15: registers are there if as many as Press tells; which ones hangs on nothing else. -/
import Derived.Test.YtfplmdjlgjgbgaaV12
import Derived.Test.YtfplmdjlgjgbgaaV14
import Derived.Test.YtfplmdjlgjgbgaaS28
namespace Go.Proofs.Ytfplmdjlgjgbgaa
set_option linter.unusedVariables false
set_option linter.unusedSimpArgs false
open Go Go.RowKit

theorem FixQ.closed {f : SsaFunc} {I O : Nat → Int → Bool} (h : FixQ f I O) : ClosedQ f I O := fun b hb => ⟨(h.at_ b hb).2, fun k hk => by rw [(h.at_ b hb).1]; exact hk⟩
theorem FixQ.uniq {f : SsaFunc} {I O I' O' : Nat → Int → Bool} (h : FixQ f I O) (h' : FixQ f I' O') : ∀ b, b < f.fBlocks.xs.length → I b = I' b ∧ O b = O' b := fun b hb => by
  obtain ⟨a1, a2⟩ := h.inv.least I' O' h'.closed b hb
  obtain ⟨c1, c2⟩ := h'.inv.least I O h.closed b hb
  constructor
  · funext k
    rw [Bool.eq_iff_iff]
    exact ⟨a1 k, c1 k⟩
  · funext k
    rw [Bool.eq_iff_iff]
    exact ⟨a2 k, c2 k⟩
theorem OrdF.uniq {f : SsaFunc} {o o' : List Int} (h : OrdF f o) (h' : OrdF f o') : o = o' := by
  rcases h with ⟨h1, rfl⟩ | ⟨h1, fin, ⟨s, hV, rfl⟩, _, rfl⟩
  · rcases h' with ⟨_, rfl⟩ | ⟨h2, _⟩
    · rfl
    · omega
  · rcases h' with ⟨h2, rfl⟩ | ⟨_, fin', ⟨s', hV', rfl⟩, _, rfl⟩
    · omega
    · rw [hV.det hV']
theorem flatMap_on {α β : Type} {f g : α → List β} : ∀ {l : List α}, (∀ x ∈ l, f x = g x) → l.flatMap f = l.flatMap g
  | [], _ => rfl
  | a :: l, h => by rw [List.flatMap_cons, List.flatMap_cons, h a (by simp), flatMap_on fun x hx => h x (by simp [hx])]
theorem foldl_on {α β : Type} {f g : β → α → β} : ∀ {l : List α} {b : β}, (∀ b, ∀ x ∈ l, f b x = g b x) → l.foldl f b = l.foldl g b
  | [], _, _ => rfl
  | a :: l, b, h => by rw [List.foldl_cons, List.foldl_cons, h b a (by simp), foldl_on fun b x hx => h b x (by simp [hx])]
theorem jobsF_uniq {f : SsaFunc} {I O I' O' : Nat → Int → Bool} {o o' : List Int} (h : FixQ f I O) (h' : FixQ f I' O') (ho : OrdF f o) (ho' : OrdF f o') : jobsF f I O o = jobsF f I' O' o' := by
  obtain rfl := ho.uniq ho'
  unfold jobsF
  refine flatMap_on fun q hq => ?_
  obtain ⟨h1, h2⟩ := ho.at.1 q hq
  obtain ⟨e1, e2⟩ := h.uniq h' q.toNat (by omega)
  rw [e1, e2]
theorem pressF_uniq {f : SsaFunc} {I O I' O' : Nat → Int → Bool} {o o' : List Int} (h : FixQ f I O) (h' : FixQ f I' O') (ho : OrdF f o) (ho' : OrdF f o') : pressF f I O o = pressF f I' O' o' := by
  obtain rfl := ho.uniq ho'
  unfold pressF
  refine foldl_on fun m q hq => ?_
  obtain ⟨h1, h2⟩ := ho.at.1 q hq
  obtain ⟨e1, e2⟩ := h.uniq h' q.toNat (by omega)
  unfold pressB
  rw [e1, e2]
theorem PickR.det {M M' : Nat} {R R1 R2 : Int → Option Int} {p : Int → Bool} {v : Int} (h : PickR M R p v R1) (h' : PickR M' R p v R2) : R1 = R2 := by
  obtain ⟨c, a1, a2, a3, rfl⟩ := h
  obtain ⟨d, b1, b2, b3, rfl⟩ := h'
  rcases Nat.lt_trichotomy c d with h | h | h
  · exact absurd (b3 c h) a2
  · rw [h]
  · exact absurd (a3 d h) b2
/-- Which registers, hangs not on how many there are. -/
theorem PickL.det {M M' : Nat} {l : List (Int × (Int → Bool))} {R R1 R2 : Int → Option Int} (h : PickL M l R R1) (h' : PickL M' l R R2) : R1 = R2 := by
  induction h generalizing R2 with
  | nil => cases h'; rfl
  | cons a _ ih =>
    cases h' with
    | cons b k =>
      obtain rfl := a.det b
      exact ih k
theorem atS_le {us : List Int} {bl : SsaBlock} {out : Int → Bool} {s0 : Nat} : ∀ d r, r + d = bl.fIns.xs.length → s0 ≤ atS (pressI us bl) bl out s0 r ∧ ∀ k, r ≤ k → k < bl.fIns.xs.length → cardU us (liveB bl out (k + 1)) + (if (nth bl.fIns.xs k).fDst ≠ 0 ∧ liveB bl out (k + 1) (nth bl.fIns.xs k).fDst = false then 1 else 0) ≤ atS (pressI us bl) bl out s0 r
  | 0, r, hd => by
    obtain rfl : r = bl.fIns.xs.length := by omega
    rw [atS_end]
    exact ⟨Nat.le_refl _, fun k h1 h2 => by omega⟩
  | d + 1, r, hd => by
    obtain ⟨h1, h2⟩ := atS_le (us := us) (bl := bl) (out := out) (s0 := s0) d (r + 1) (by omega)
    rw [atS_step (by omega)]
    generalize atS (pressI us bl) bl out s0 (r + 1) = z at h1 h2 ⊢
    unfold pressI
    refine ⟨Nat.le_trans h1 (Nat.le_max_left _ _), fun k hk1 hk2 => ?_⟩
    rcases Nat.lt_or_ge r k with h | h
    · exact Nat.le_trans (h2 k h hk2) (Nat.le_max_left _ _)
    · obtain rfl : k = r := by omega
      exact Nat.le_max_right _ _
theorem foldl_max {α : Type} {g : Nat → α → Nat} (hg : ∀ m x, m ≤ g m x) : ∀ {l : List α} {m : Nat}, m ≤ l.foldl g m ∧ ∀ x ∈ l, ∃ m', g m' x ≤ l.foldl g m
  | [], m => ⟨Nat.le_refl _, fun x hx => nomatch hx⟩
  | a :: l, m => by
    rw [List.foldl_cons]
    obtain ⟨h1, h2⟩ := foldl_max hg (l := l) (m := g m a)
    refine ⟨Nat.le_trans (hg m a) h1, fun x hx => ?_⟩
    rcases List.mem_cons.1 hx with rfl | hx
    · exact ⟨m, h1⟩
    · exact h2 x hx
theorem pressB_ge {f : SsaFunc} {I O : Nat → Int → Bool} {m q : Nat} : m ≤ pressB f I O m q := by
  unfold pressB
  exact Nat.le_trans (Nat.le_max_left _ _) (atS_le _ 0 (Nat.zero_add _)).1
theorem card_no {M : Nat} {R : Int → Option Int} {p : Int → Bool} {v : Int} {us : List Int} (h : PickNo M R p v) (hu : ∀ k, p k = true → k ∈ us) : M + (if p v = true then 1 else 0) ≤ cardU us p := by
  have hn : ((dd us).filter p).Nodup := (dd_nodup us).filter _
  have hm : ∀ k, p k = true → k ∈ (dd us).filter p := fun k hk => List.mem_filter.2 ⟨dd_mem.2 (hu k hk), hk⟩
  unfold cardU
  by_cases hv : p v = true
  · rw [if_pos hv]
    have h1 := h.card (us := ((dd us).filter p).erase v) fun k hk hne => (List.mem_erase_of_ne hne).2 (hm k hk)
    have h2 := List.length_erase_of_mem (hm v hv)
    have h3 := List.length_pos_of_mem (hm v hv)
    omega
  · rw [if_neg hv]
    exact h.card fun k hk _ => hm k hk
theorem jobs_mem {bl : SsaBlock} {inn out : Int → Bool} {v : Int} {p : Int → Bool} (h : (v, p) ∈ jobsB bl inn out) : (v ∈ bl.fParams.xs ∧ p = addL inn bl.fParams.xs) ∨ ∃ k, k < bl.fIns.xs.length ∧ v = (nth bl.fIns.xs k).fDst ∧ v ≠ 0 ∧ p = liveB bl out (k + 1) := by
  unfold jobsB at h
  rcases List.mem_append.1 h with h | h
  · obtain ⟨a, ha, e⟩ := List.mem_map.1 h
    have e1 := congrArg Prod.fst e
    have e2 := congrArg Prod.snd e
    exact .inl ⟨(show a = v from e1) ▸ ha, e2.symm⟩
  · unfold jobsI at h
    obtain ⟨k, hk, h⟩ := List.mem_flatMap.1 h
    split at h
    · cases h
    · rename_i hz
      rw [List.mem_singleton] at h
      have e1 := congrArg Prod.fst h
      have e2 := congrArg Prod.snd h
      exact .inr ⟨k, List.mem_range.1 hk, e1, (show v = _ from e1) ▸ hz, e2⟩
/-- As many registers as Press tells are enough. -/
theorem press_enough {f : SsaFunc} {I O : Nat → Int → Bool} {o : List Int} (hQ : FixQ f I O) (ho : OrdF f o) {M : Nat} (hM : pressF f I O o ≤ M) {R : Int → Option Int} : ¬ PickF M (jobsF f I O o) R := by
  rintro ⟨pre, v, p, post, R1, h1, h2, h3⟩
  have hm : (v, p) ∈ jobsF f I O o := by rw [h1]; simp
  unfold jobsF at hm
  obtain ⟨q, hq, hm⟩ := List.mem_flatMap.1 hm
  obtain ⟨q1, q2⟩ := ho.at.1 q hq
  have hqn : q.toNat < f.fBlocks.xs.length := by omega
  obtain ⟨m', hm'⟩ := (foldl_max (g := fun m q => pressB f I O m q.toNat) (fun m x => pressB_ge) (l := o) (m := 0)).2 q hq
  have hm' : pressB f I O m' q.toNat ≤ pressF f I O o := hm'
  have hbm : nth f.fBlocks.xs q.toNat ∈ f.fBlocks.xs := nth_mem hqn
  have husB : ∀ k, k ∈ usB (nth f.fBlocks.xs q.toNat) → k ∈ usU f := fun k hk => List.mem_flatMap.2 ⟨_, hbm, hk⟩
  obtain ⟨u1, u2⟩ := atS_le (us := usP f) (bl := nth f.fBlocks.xs q.toNat) (out := O q.toNat) (s0 := max m' (cardU (usP f) (addL (I q.toNat) (nth f.fBlocks.xs q.toNat).fParams.xs))) _ 0 (Nat.zero_add _)
  have hP : atS (pressI (usP f) (nth f.fBlocks.xs q.toNat)) (nth f.fBlocks.xs q.toNat) (O q.toNat) (max m' (cardU (usP f) (addL (I q.toNat) (nth f.fBlocks.xs q.toNat).fParams.xs))) 0 ≤ M := Nat.le_trans hm' hM
  rcases jobs_mem hm with ⟨g1, rfl⟩ | ⟨k, g1, g2, g3, rfl⟩
  · have h4 := card_no h3 (us := usP f) fun k hk => by
      unfold addL at hk
      rw [Bool.or_eq_true, decide_eq_true_eq] at hk
      unfold usP
      rcases hk with hk | hk
      · exact List.mem_append_left _ ((hQ.inv.us q.toNat hqn k).1 hk)
      · exact List.mem_append_right _ (List.mem_flatMap.2 ⟨_, hbm, hk⟩)
    rw [if_pos (by unfold addL; simp [g1])] at h4
    have h5 := Nat.le_max_right m' (cardU (usP f) (addL (I q.toNat) (nth f.fBlocks.xs q.toNat).fParams.xs))
    omega
  · have h4 := card_no h3 (us := usP f) fun j hj => by
      unfold usP
      refine List.mem_append_left _ ?_
      rcases liveB_in hj with hj | hj
      · exact (hQ.inv.us q.toNat hqn j).2 hj
      · exact husB j hj
    have h5 := u2 k (Nat.zero_le _) g1
    rw [← g2] at h5
    cases hv : liveB (nth f.fBlocks.xs q.toNat) (O q.toNat) (k + 1) v with
    | true =>
      rw [if_pos hv] at h4
      omega
    | false =>
      rw [if_pos ⟨g3, hv⟩] at h5
      omega
section
open Go Go.RowKit

theorem good15_spec (p : SsaProg) : Spec Try.prog 11 [.agg (Enc.enc p).toArray] [] (fun ok w => RdD ok w p) fun r L' => ∃ b, r = .bool b ∧ L' = [] ∧ (b = true → FewPr p ∧ checkB p = true) := by
  refine spec_of Try.func11 rfl rfl fun w0 f0 hR => ?_
  (repeat' (first | refine s_assign ?_ | refine s_nil ?_ | (refine k_C ?_; first | refine s_seq ?_ | refine s_region ?_) | (refine k_E ?_; refine e_seq ?_) | (refine k_load ?_; refine s_ldBW rfl rfl ?_) | (refine s_box _ rfl ?_; intro b)))
  refine s_call0 (few_spec p) rfl (fun w1 H => H.rdD (by infer_instance)) ?_
  rintro r L' ⟨few, rfl, rfl, hfew⟩
  (repeat' (first | refine s_move ?_ | refine s_assign ?_ | refine s_nil ?_ | (refine k_C ?_; refine s_ret ?_) | (refine k_E ?_; refine e_seq ?_) | (refine k_load ?_; refine s_ldBW rfl rfl ?_) | (refine k_guard ?_; first | refine s_on rfl rfl ?_ | refine s_off rfl rfl rfl rfl ?_ | (refine s_cases rfl rfl ?_ ?_ <;> intro hc)) | refine s_pick rfl ?_))
  · have hp := hfew (by simpa using hc)
    refine s_call0 (check_spec p (fewP_pr hp)) rfl (fun w1 H => H.rdD (by infer_instance)) ?_
    rintro r L' ⟨rfl, rfl⟩
    by_cases hck : checkB p = true
    · rw [if_pos hck]
      (repeat' (first | refine s_assign ?_ | refine s_nil ?_ | (refine k_C ?_; refine s_ret ?_) | (refine k_E ?_; refine e_seq ?_) | (refine k_bin ?_; refine s_eql rfl rfl ?_) | (refine k_guard ?_; refine s_on rfl rfl ?_) | refine s_pick rfl ?_))
      exact e_done rfl rfl [] (PSub.take [] rfl) ⟨true, rfl, rfl, fun _ => ⟨hp, hck⟩⟩
    · rw [if_neg hck]
      (repeat' (first | refine s_assign ?_ | refine s_nil ?_ | (refine k_C ?_; refine s_ret ?_) | (refine k_E ?_; refine e_seq ?_) | (refine k_bin ?_; refine s_eql rfl rfl ?_) | (refine k_guard ?_; refine s_on rfl rfl ?_) | refine s_pick rfl ?_))
      exact e_done rfl rfl [] (PSub.take [] rfl) ⟨false, rfl, rfl, fun h => (by cases h)⟩
  exact e_done rfl rfl [] (PSub.take [] rfl) ⟨false, rfl, rfl, fun h => (by cases h)⟩
theorem len_flatMap {α β : Type} {g : α → List β} {c : Nat} : ∀ {l : List α}, (∀ x ∈ l, (g x).length ≤ c) → (l.flatMap g).length ≤ l.length * c
  | [], _ => Nat.zero_le _
  | a :: l, h => by
    rw [List.flatMap_cons, List.length_append, List.length_cons, Nat.succ_mul]
    have h1 := h a (by simp)
    have h2 := len_flatMap (l := l) fun x hx => h x (by simp [hx])
    omega
theorem usB_few {b : SsaBlock} (h : FewBk b) : (usB b).length ≤ 901 ∧ (usesE b.fEnd).length ≤ 101 := by
  have hi := h.i
  have hw := h.w
  have h1 : (b.fIns.xs.flatMap (·.fArgs.xs)).length ≤ b.fIns.xs.length * 20 := len_flatMap fun x hx => by
    obtain ⟨m, hm, rfl⟩ := List.getElem_of_mem hx
    rw [← nth_get hm]; exact h.ia m hm
  have h2 : (b.fEnd.fWays.xs.flatMap (·.fArgs.xs)).length ≤ b.fEnd.fWays.xs.length * 20 := len_flatMap fun x hx => by
    obtain ⟨m, hm, rfl⟩ := List.getElem_of_mem hx
    rw [← nth_get hm]; exact h.wa m hm
  have h3 : (usesE b.fEnd).length ≤ 101 := by
    unfold usesE
    rw [List.length_append]
    split <;> simp only [List.length_cons, List.length_nil] <;> omega
  refine ⟨?_, h3⟩
  unfold usB
  rw [List.length_append]
  omega
theorem few_okF {f : SsaFunc} (h : FewFn f) : OkF f ∧ (usP f).length ≤ 900000000 := by
  have hb := h.b
  have h1 : (usU f).length ≤ f.fBlocks.xs.length * 901 := len_flatMap fun x hx => by
    obtain ⟨m, hm, rfl⟩ := List.getElem_of_mem hx
    rw [← nth_get hm]; exact (usB_few (h.k m hm)).1
  have h2 : (f.fBlocks.xs.flatMap fun b => b.fParams.xs).length ≤ f.fBlocks.xs.length * 20 := len_flatMap fun x hx => by
    obtain ⟨m, hm, rfl⟩ := List.getElem_of_mem hx
    rw [← nth_get hm]; exact (h.k m hm).p
  refine ⟨⟨by omega, fun i hi => ?_, by omega⟩, by unfold usP; rw [List.length_append]; omega⟩
  have hk := h.k i hi
  have q1 := hk.p
  have q2 := hk.i
  have q3 := hk.w
  have q4 := (usB_few hk).2
  exact ⟨by omega, by omega, fun m hm => Nat.le_trans (hk.ia m hm) (by omega), by omega, by omega⟩
set_option maxHeartbeats 8000000 in
theorem liveSame_spec (p : SsaProg) (most : Int) : Spec Try.prog 6 [.agg (Enc.enc p).toArray, .int .i64 most] [] (fun ok w => RdD ok w p) fun r L' => r = .bool true ∧ L' = [] := by
  refine spec_of Try.func6 rfl rfl fun w0 f0 hR => ?_
  (repeat' (first | refine s_assign ?_ | refine s_nil ?_ | (refine k_C ?_; first | refine s_seq ?_ | refine s_region ?_) | (refine k_E ?_; refine e_seq ?_) | (refine s_box _ rfl ?_; intro b)))
  obtain ⟨b2, rfl⟩ : ∃ q, q = b := ⟨_, rfl⟩
  refine s_call0 head15_spec rfl (fun _ _ => trivial) ?_
  rintro r L' ⟨rfl, rfl⟩
  (repeat' (first | refine s_nil ?_ | (refine k_C ?_; first | refine s_seq ?_ | refine s_region ?_ | refine s_skip ?_ | refine s_iff rfl ?_) | (refine k_E ?_; refine e_seq ?_) | (refine k_load ?_; refine s_ldBW rfl rfl ?_) | refine s_not rfl ?_))
  refine s_call0 (good15_spec p) rfl (fun w1 H => H.rdD (by infer_instance)) ?_
  rintro r L' ⟨gd, rfl, rfl, hgd⟩
  (repeat' (first | refine s_move ?_ | refine s_assign ?_ | refine s_nil ?_ | (refine k_C ?_; first | refine s_seq ?_ | refine s_region ?_ | refine s_skip ?_ | refine s_ret ?_ | (refine s_if rfl ?_ ?_ <;> intro hc)) | (refine k_E ?_; first | refine e_seq ?_ | refine e_seq_ret ?_) | refine s_not rfl ?_))
  · exact e_done rfl rfl [] (PSub.take [] rfl) ⟨rfl, rfl⟩
  obtain ⟨hp, hck⟩ := hgd (by simpa using hc)
  have hpf := hp.f
  refine s_andM (c := 15) rfl rfl (by decide) ?_
  intro mo hmo
  (repeat' (first | refine s_move ?_ | refine s_assign ?_ | refine s_nil ?_ | (refine k_C ?_; first | refine s_seq ?_ | refine s_region ?_ | refine s_block ?_) | (refine k_E ?_; refine e_seq ?_) | (refine k_load ?_; refine s_ldB rfl rfl ?_) | (refine k_fld ?_; refine s_fldB rfl ?_) | (refine k_call ?_; refine s_len rfl ?_)))
  refine s_loop (σ := Nat) (fun i => [(1, .int .i64 (mo : Nat)), (2, .pointer (some ⟨b2, 0, none⟩)), (22, .slice p.fFuncs.A p.fFuncs.xs.length p.fFuncs.c), (23, .int .i64 p.fFuncs.xs.length), (24, .int .i64 (i : Nat))])
    (fun _ => [var 48 b2 p]) (fun i => i ≤ p.fFuncs.xs.length) (fun i => p.fFuncs.xs.length - i) 0 (by repeat (first | exact trivial | refine ⟨rfl, ?_⟩)) (Nat.zero_le _) PSub.refl ?_
  rintro g i hi
  (repeat' (first | refine s_nil ?_ | (refine k_C ?_; first | refine s_seq ?_ | refine s_region ?_) | (refine k_E ?_; refine e_seq ?_) | (refine k_bin ?_; refine s_lss rfl rfl ?_)))
  (first | (refine k_C ?_; (refine s_ifd rfl ?_ ?_ <;> intro hc <;> try (exfalso; omega))))
  rotate_left
  · (repeat' (first | refine s_assign ?_ | refine s_nil ?_ | (refine k_C ?_; first | refine s_seq ?_ | refine s_region ?_ | refine s_exit ?_ | refine s_ret ?_) | (refine k_E ?_; first | refine e_seq ?_ | refine e_seq_exit ?_ | refine e_bk_exit ?_ | refine e_lp_exit ?_)))
    exact e_done rfl rfl [] (PSub.take [] rfl) ⟨rfl, rfl⟩
  have hin : i < p.fFuncs.xs.length := by omega
  have hFo := few_okF (hp.k i hin)
  (repeat' (first | refine s_nil ?_ | (refine k_C ?_; first | refine s_seq ?_ | refine s_region ?_ | refine s_skip ?_ | refine s_block ?_) | (refine k_E ?_; refine e_seq ?_) | (refine k_load ?_; first | refine s_ldBW rfl rfl ?_ | refine s_ldSA rfl rfl om rfl ?_) | (refine k_idx ?_; refine s_idxS rfl rfl om ?_) | (refine k_store ?_; refine s_stW _ rfl rfl ?_) | (refine s_alloc ?_; intro b)))
  obtain ⟨b6, rfl⟩ : ∃ q, q = b := ⟨_, rfl⟩
  refine s_call0 (press15_spec (nth p.fFuncs.xs i) hFo.1 hFo.2) rfl (fun w1 H => H.rdD (by infer_instance)) ?_
  rintro r L' ⟨I, O, o, hQ, ho, rfl, rfl⟩
  generalize hpr : pressF (nth p.fFuncs.xs i) I O o = pr
  (repeat' (first | refine s_move ?_ | refine s_assign ?_ | refine s_nil ?_ | (refine k_C ?_; first | refine s_seq ?_ | refine s_region ?_ | refine s_skip ?_ | refine s_exit ?_ | (refine s_ifd rfl ?_ ?_ <;> intro hc <;> try (exfalso; omega))) | (refine k_E ?_; first | refine e_seq ?_ | refine e_seq_exit ?_ | refine e_bk_exit ?_) | (refine k_load ?_; refine s_ldBW rfl rfl ?_) | (refine k_bin ?_; first | refine s_add1 rfl rfl om ?_ | refine s_gtr rfl rfl ?_) | (refine k_call ?_; refine s_max rfl rfl ?_)))
  · exact e_lp (i + 1) (by repeat (first | exact trivial | refine ⟨rfl, ?_⟩)) (by omega) (by show _ - _ < _ - _; omega) (PSub.take [1] rfl)
  obtain ⟨M, hMe, hM1, hM2⟩ : ∃ M : Nat, max (1 : Int) (pr : Int) = (M : Int) ∧ 1 ≤ M ∧ pr ≤ M := ⟨max 1 pr, by omega, by omega, by omega⟩
  rw [hMe] at hc ⊢
  refine s_call0 (paint15_spec (nth p.fFuncs.xs i) hFo.1 (M : Int)) rfl (fun w1 H => H.rdD (by infer_instance)) ?_
  rintro r L' (⟨h1, _⟩ | ⟨_, _, I1, O1, o1, hQ1, ho1, ⟨rb1, N1, R1, rfl, hP1, rfl⟩ | ⟨rfl, hP1, rfl⟩⟩)
  · omega
  rotate_left
  · have := pressF_uniq hQ1 hQ ho1 ho
    exact absurd hP1 (press_enough hQ1 ho1 (by omega))
  (repeat' (first | refine s_move ?_ | refine s_assign ?_ | refine s_nil ?_ | (refine k_C ?_; first | refine s_seq ?_ | refine s_region ?_) | (refine k_E ?_; refine e_seq ?_) | (refine k_load ?_; refine s_ldBW rfl rfl ?_) | (refine k_bin ?_; refine s_add64 rfl rfl om ?_) | refine s_extract rfl rfl ?_))
  refine s_call0 (paint15_spec (nth p.fFuncs.xs i) hFo.1 ((M : Int) + (mo : Int))) rfl (fun w1 H => H.rdD (by infer_instance)) ?_
  rintro r L' (⟨h1, _⟩ | ⟨_, _, I2, O2, o2, hQ2, ho2, ⟨rb2, N2, R2, rfl, hP2, rfl⟩ | ⟨rfl, hP2, rfl⟩⟩)
  · omega
  rotate_left
  · have := pressF_uniq hQ2 hQ ho2 ho
    exact absurd hP2 (press_enough hQ2 ho2 (by omega))
  rw [jobsF_uniq hQ2 hQ1 ho2 ho1] at hP2
  obtain rfl := hP1.det hP2
  (repeat' (first | refine s_move ?_ | refine s_assign ?_ | refine s_nil ?_ | (refine k_C ?_; first | refine s_seq ?_ | refine s_region ?_) | (refine k_E ?_; refine e_seq ?_) | (refine k_bin ?_; refine s_neq rfl rfl ?_) | (refine k_guard ?_; refine s_on rfl rfl ?_) | refine s_pick rfl ?_ | refine s_extract rfl rfl ?_))
  refine s_lenC rfl ?_
  intro ks1 hn1 hm1
  (repeat' (first | refine s_move ?_ | (refine k_guard ?_; refine s_on rfl rfl ?_)))
  refine s_lenC rfl ?_
  intro ks2 hn2 hm2
  have hll : ks1.length = ks2.length := Nat.le_antisymm (nodup_le hn1 fun k hk => (hm2 k).2 ((hm1 k).1 hk)) (nodup_le hn2 fun k hk => (hm1 k).2 ((hm2 k).1 hk))
  (repeat' (first | refine s_move ?_ | refine s_nil ?_ | (refine k_C ?_; first | refine s_seq ?_ | refine s_region ?_ | refine s_skip ?_ | (refine s_ifn rfl ?_ ?_ <;> intro hc <;> try (exfalso; omega))) | (refine k_E ?_; refine e_seq ?_) | (refine k_bin ?_; refine s_neq rfl rfl ?_) | (refine k_guard ?_; refine s_on rfl rfl ?_) | refine s_pick rfl ?_))
  refine so_sub (L' := [mp EI 3 rb1 N1 R1, mp EI 3 rb2 N2 R1, var 38 b6 (nth p.fFuncs.xs i), var 48 b2 p]) (PSub.take [1, 0, 0, 0] rfl) ?_
  refine s_rangeD rfl ?_
  intro cnt r
  (repeat' (first | refine s_nil ?_ | (refine k_C ?_; refine s_block ?_) | (refine k_E ?_; refine e_seq ?_)))
  refine s_loop (σ := (Int → Bool) × Nat) (fun z => [(1, .int .i64 (mo : Nat)), (2, .pointer (some ⟨b2, 0, none⟩)), (22, .slice p.fFuncs.A p.fFuncs.xs.length p.fFuncs.c), (23, .int .i64 p.fFuncs.xs.length), (24, .int .i64 (i : Nat)), (8, .map (some rb1)), (10, .map (some rb2)), (61, .pointer (some ⟨r, 0, none⟩))])
    (fun z => [rgD EI 3 rb1 r N1 R1 z.1 z.2, mp EI 3 rb2 N2 R1, var 38 b6 (nth p.fFuncs.xs i), var 48 b2 p]) (fun _ => True) (fun z => z.2) ((fun k => (R1 k).isSome), cnt) (by repeat (first | exact trivial | refine ⟨rfl, ?_⟩)) trivial PSub.refl ?_
  rintro g3 ⟨todo, c1⟩ _
  (repeat' (first | (refine k_C ?_; first | refine s_seq ?_ | refine s_region ?_)))
  refine s_nextD U_3 rfl (fun hfin => ?_) (fun k x cnt' hk hg ht hF hlt => ?_)
  · (repeat' (first | refine s_move ?_ | refine s_nil ?_ | (refine k_C ?_; first | refine s_seq ?_ | refine s_region ?_ | refine s_exit ?_ | refine s_iff rfl ?_) | (refine k_E ?_; first | refine e_seq ?_ | refine e_seq_exit ?_ | refine e_bk_exit ?_ | refine e_bk ?_ | refine e_lp_exit ?_) | (refine k_bin ?_; refine s_add1 rfl rfl om ?_) | refine s_extract rfl rfl ?_))
    exact e_lp (i + 1) (by repeat (first | exact trivial | refine ⟨rfl, ?_⟩)) (by omega) (by show _ - _ < _ - _; omega) (PSub.take [3] rfl)
  (repeat' (first | refine s_nil ?_ | (refine k_C ?_; first | refine s_seq ?_ | refine s_region ?_ | refine s_skip ?_ | refine s_block ?_ | refine s_ift rfl ?_) | (refine k_E ?_; refine e_seq ?_) | refine s_extract rfl rfl ?_))
  refine s_entryD rfl ?_
  (repeat' (first | refine s_move ?_ | refine s_assign ?_ | refine s_nil ?_ | (refine k_C ?_; first | refine s_seq ?_ | refine s_region ?_) | (refine k_E ?_; refine e_seq ?_) | refine s_extract rfl rfl ?_))
  refine s_look rfl rfl hk ?_
  rw [hF, Option.getD_some]
  (repeat' (first | refine s_move ?_ | refine s_nil ?_ | (refine k_C ?_; first | refine s_skip ?_ | (refine s_ifn rfl ?_ ?_ <;> intro hc <;> try (exfalso; omega))) | (refine k_E ?_; first | refine e_seq ?_ | refine e_bk ?_) | (refine k_bin ?_; refine s_neq rfl rfl ?_)))
  exact e_lp (fun j => todo j && j != k, cnt') (by repeat (first | exact trivial | refine ⟨rfl, ?_⟩)) trivial hlt PSub.refl
end
end Go.Proofs.Ytfplmdjlgjgbgaa
