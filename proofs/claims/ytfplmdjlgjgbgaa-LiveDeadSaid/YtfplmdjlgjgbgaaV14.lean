/- Layer 15: head, walked. -/
import Derived.Test.YtfplmdjlgjgbgaaV12
namespace Go.Proofs.Ytfplmdjlgjgbgaa
set_option linter.unusedVariables false
set_option linter.unusedSimpArgs false
open Go Go.RowKit

structure HeadB (bl : SsaBlock) : Prop where
  p : bl.fParams.xs = []
  l : bl.fIns.xs.length = 3
  d0 : (nth bl.fIns.xs 0).fDst = 1 ∧ (nth bl.fIns.xs 0).fArgs.xs = []
  d1 : (nth bl.fIns.xs 1).fDst = 2 ∧ (nth bl.fIns.xs 1).fArgs.xs = []
  d2 : (nth bl.fIns.xs 2).fDst = 3 ∧ (nth bl.fIns.xs 2).fArgs.xs = [1, 2]
  e : usesE bl.fEnd = [3]
  w : bl.fEnd.fWays.xs = []
section
variable {bl : SsaBlock}
theorem HeadB.l3 (h : HeadB bl) : liveB bl (fun _ => false) 3 = fun v => decide (v ∈ [3]) := by
  have := liveB_end (b := bl) (out := fun _ => false)
  rw [h.l, h.e] at this
  rw [this]
  funext v
  unfold addL
  rfl
theorem HeadB.l2 (h : HeadB bl) : liveB bl (fun _ => false) 2 = fun v => decide (v ∈ [1, 2]) := by
  have := h.l
  obtain ⟨h1, h2⟩ := h.d2
  rw [liveB_step (by omega), h.l3]
  funext v
  unfold stepI addL
  rw [Bool.eq_iff_iff, h1, h2]
  simp only [Bool.or_eq_true, Bool.and_eq_true, decide_eq_true_eq, Bool.not_eq_true', decide_eq_false_iff_not, List.mem_cons, List.not_mem_nil, or_false]
  omega
theorem HeadB.l1 (h : HeadB bl) : liveB bl (fun _ => false) 1 = fun v => decide (v ∈ [1]) := by
  have := h.l
  obtain ⟨h1, h2⟩ := h.d1
  rw [liveB_step (by omega), h.l2]
  funext v
  unfold stepI addL
  rw [Bool.eq_iff_iff, h1, h2]
  simp only [Bool.or_eq_true, Bool.and_eq_true, decide_eq_true_eq, Bool.not_eq_true', decide_eq_false_iff_not, List.mem_cons, List.not_mem_nil, or_false]
  omega
theorem HeadB.l0 (h : HeadB bl) : liveB bl (fun _ => false) 0 = fun v => decide (v ∈ []) := by
  have := h.l
  obtain ⟨h1, h2⟩ := h.d0
  rw [liveB_step (by omega), h.l1]
  funext v
  unfold stepI addL
  rw [Bool.eq_iff_iff, h1, h2]
  simp only [Bool.or_eq_true, Bool.and_eq_true, decide_eq_true_eq, Bool.not_eq_true', decide_eq_false_iff_not, List.mem_cons, List.not_mem_nil, or_false, iff_false]
  omega
theorem card_list {us ks : List Int} (hn : ks.Nodup) (hu : ∀ k ∈ ks, k ∈ us) : cardU us (fun v => decide (v ∈ ks)) = ks.length :=
  (cardU_of (ks := ks) hn (fun v => by rw [setP_ne, decide_eq_true_eq]) (fun k hk => hu k (of_decide_eq_true hk))).symm
theorem HeadB.us (h : HeadB bl) {us : List Int} (hu : ∀ k, k ∈ usB bl → k ∈ us) : ∀ k, k = 1 ∨ k = 2 ∨ k = 3 → k ∈ us := fun k hk => hu k (by
  unfold usB
  rw [h.e]
  rcases hk with hk | hk | hk
  · refine List.mem_append_right _ (List.mem_flatMap.2 ⟨nth bl.fIns.xs 2, nth_mem (by rw [h.l]; omega), ?_⟩)
    rw [h.d2.2]; simp [hk]
  · refine List.mem_append_right _ (List.mem_flatMap.2 ⟨nth bl.fIns.xs 2, nth_mem (by rw [h.l]; omega), ?_⟩)
    rw [h.d2.2]; simp [hk]
  · refine List.mem_append_left _ ?_
    simp [hk])
theorem HeadB.press (h : HeadB bl) {us : List Int} (hu : ∀ k, k ∈ usB bl → k ∈ us) : atS (pressI us bl) bl (fun _ => false) 0 0 = 2 := by
  have hl := h.l
  have hu := h.us hu
  have a3 : atS (pressI us bl) bl (fun _ => false) 0 3 = 0 := by
    have := atS_end (step := pressI us bl) (b := bl) (out := fun _ => false) (s0 := 0)
    rw [hl] at this; exact this
  have c3 : cardU us (liveB bl (fun _ => false) 3) = 1 := by rw [h.l3]; exact card_list (by simp) (by intro k hk; refine hu k ?_; simp at hk; omega)
  have c2 : cardU us (liveB bl (fun _ => false) 2) = 2 := by rw [h.l2]; exact card_list (by simp) (by intro k hk; refine hu k ?_; simp at hk; omega)
  have c1 : cardU us (liveB bl (fun _ => false) 1) = 1 := by rw [h.l1]; exact card_list (by simp) (by intro k hk; refine hu k ?_; simp at hk; omega)
  rw [atS_step (by omega), atS_step (by omega), atS_step (by omega), a3]
  unfold pressI
  rw [c1, c2, c3, h.d0.1, h.d1.1, h.d2.1, h.l1, h.l2, h.l3]
  rfl
theorem HeadB.jobs (h : HeadB bl) {inn : Int → Bool} : jobsB bl inn (fun _ => false) = [(1, fun v => decide (v ∈ [1])), (2, fun v => decide (v ∈ [1, 2])), (3, fun v => decide (v ∈ [3]))] := by
  unfold jobsB
  rw [h.p, h.l, jobsI_succ, jobsI_succ, jobsI_succ, h.d0.1, h.d1.1, h.d2.1, h.l1, h.l2, h.l3, if_neg (by decide), if_neg (by decide), if_neg (by decide)]
  rfl
def regs3 : Int → Option Int := upd (upd (upd (fun _ => none) 1 (some 0)) 2 (some 1)) 3 (some 0)
theorem HeadB.no (h : HeadB bl) {inn : Int → Bool} {R : Int → Option Int} : ¬ PickF 2 (jobsB bl inn (fun _ => false)) R := by
  rintro ⟨pre, v, p, post, R1, h1, h2, h3⟩
  rw [h.jobs] at h1
  have hm : (v, p) ∈ [((1 : Int), fun v => decide (v ∈ [(1 : Int)])), (2, fun v => decide (v ∈ [1, 2])), (3, fun v => decide (v ∈ [3]))] := by rw [h1]; simp
  simp only [List.mem_cons, Prod.mk.injEq, List.not_mem_nil, or_false] at hm
  have key : ∀ us : List Int, (∀ k, p k = true → k ≠ v → k ∈ us) → 2 ≤ us.length := fun us hus => h3.card hus
  rcases hm with ⟨rfl, rfl⟩ | ⟨rfl, rfl⟩ | ⟨rfl, rfl⟩
  · have := key [] (fun k hk hne => absurd (of_decide_eq_true hk) hne)
    simp at this
  · have := key [1] (fun k hk hne => by have := of_decide_eq_true hk; simp; omega)
    simp at this
  · have := key [] (fun k hk hne => absurd (of_decide_eq_true hk) hne)
    simp at this
theorem HeadB.regs (h : HeadB bl) {inn : Int → Bool} {R : Int → Option Int} (hP : PickL 2 (jobsB bl inn (fun _ => false)) (fun _ => none) R) : R = regs3 := by
  rw [h.jobs] at hP
  cases hP with
  | cons p1 hP =>
  cases hP with
  | cons p2 hP =>
  cases hP with
  | cons p3 hP =>
  cases hP
  obtain ⟨c1, a1, a2, a3, rfl⟩ := p1
  obtain ⟨c2, b1, b2, b3, rfl⟩ := p2
  obtain ⟨c3, d1, d2, d3, rfl⟩ := p3
  have e1 : c1 = 0 := by
    rcases Nat.eq_zero_or_pos c1 with e | e
    · exact e
    · obtain ⟨o, _, _, ho⟩ := a3 0 e; cases ho
  subst e1
  have e2 : c2 = 1 := by
    have h0 : Taken (upd (fun _ => none) 1 (some ((0 : Nat) : Int))) (fun v => decide (v ∈ [1, 2])) 2 0 := ⟨1, rfl, by decide, rfl⟩
    have : c2 ≠ 0 := fun e => b2 (e ▸ h0)
    omega
  subst e2
  have e3 : c3 = 0 := by
    rcases Nat.eq_zero_or_pos c3 with e | e
    · exact e
    · obtain ⟨o, h1, h2, ho⟩ := d3 0 e
      have h1 := of_decide_eq_true h1
      simp at h1
      exact absurd h1 h2
  subst e3
  rfl
end
def hI1 : SsaIns := ⟨1, 1, Enc.dflt, 2, Enc.dflt, Enc.dflt, Enc.dflt⟩
def hI2 : SsaIns := ⟨1, 2, Enc.dflt, 3, Enc.dflt, Enc.dflt, Enc.dflt⟩
def hI3 (b6 : Nat) : SsaIns := ⟨2, 3, ⟨some ⟨b6, 0, none⟩, 2, [1, 2]⟩, Enc.dflt, 1, Enc.dflt, Enc.dflt⟩
def headBlk (b6 b8 : Nat) : SsaBlock := ⟨Enc.dflt, ⟨some ⟨b8, 0, none⟩, 3, [hI1, hI2, hI3 b6]⟩, ⟨3, 3, Enc.dflt, Enc.dflt⟩⟩
def headF (b6 b8 b11 : Nat) : SsaFunc := ⟨Enc.dflt, ⟨some ⟨b11, 0, none⟩, 1, [headBlk b6 b8]⟩⟩
section
variable {b6 b8 b11 : Nat}
theorem headB_of : HeadB (headBlk b6 b8) := ⟨rfl, rfl, ⟨rfl, rfl⟩, ⟨rfl, rfl⟩, ⟨rfl, rfl⟩, rfl, rfl⟩
theorem head_one : One (headF b6 b8 b11) (headBlk b6 b8) := ⟨rfl, rfl⟩
theorem head_okF : OkF (headF b6 b8 b11) ∧ (usP (headF b6 b8 b11)).length ≤ 900000000 := by
  have h3 : (usU (headF b6 b8 b11)).length = 3 := rfl
  have h4 : (usP (headF b6 b8 b11)).length = 3 := rfl
  refine ⟨⟨by show 1 ≤ 1000; omega, fun i hi => ?_, by omega⟩, by omega⟩
  have : i = 0 := by have : i < 1 := hi; omega
  subst this
  refine ⟨Nat.zero_le _, by show 3 ≤ 1000; omega, fun m hm => ?_, Nat.zero_le _, by show 1 ≤ _; omega⟩
  have hm : m < 3 := hm
  have : m = 0 ∨ m = 1 ∨ m = 2 := by omega
  rcases this with rfl | rfl | rfl
  · exact Nat.zero_le _
  · exact Nat.zero_le _
  · show 2 ≤ 1000; omega
theorem head_press {I O : Nat → Int → Bool} {o : List Int} (hQ : FixQ (headF b6 b8 b11) I O) (ho : OrdF (headF b6 b8 b11) o) : pressF (headF b6 b8 b11) I O o = 2 := by
  have hB := headB_of (b6 := b6) (b8 := b8)
  obtain ⟨e1, e2⟩ := head_one.out hQ
  have hu : ∀ k, k ∈ usB (headBlk b6 b8) → k ∈ usP (headF b6 b8 b11) := fun k hk => List.mem_append_left _ (List.mem_flatMap.2 ⟨headBlk b6 b8, by simp [headF], hk⟩)
  rw [head_one.ord ho]
  show pressB (headF b6 b8 b11) I O 0 0 = 2
  unfold pressB
  rw [head_one.at, e1, e2]
  have e3 : cardU (usP (headF b6 b8 b11)) (addL (backP (headBlk b6 b8) fun _ => false) (headBlk b6 b8).fParams.xs) = 0 := by
    rw [hB.p, addL_nil]
    show cardU _ (liveB (headBlk b6 b8) (fun _ => false) 0) = 0
    rw [hB.l0]
    exact card_list List.nodup_nil (fun k hk => nomatch hk)
  rw [e3]
  exact hB.press hu
theorem head_jobs {I O : Nat → Int → Bool} {o : List Int} (hQ : FixQ (headF b6 b8 b11) I O) (ho : OrdF (headF b6 b8 b11) o) : jobsF (headF b6 b8 b11) I O o = jobsB (headBlk b6 b8) (I 0) (fun _ => false) := by
  obtain ⟨e1, _⟩ := head_one.out hQ
  rw [head_one.ord ho]
  unfold jobsF
  rw [List.flatMap_cons, List.flatMap_nil, List.append_nil]
  show jobsB (nth (headF b6 b8 b11).fBlocks.xs 0) (I 0) (O 0) = _
  rw [head_one.at, e1]
theorem head_rd {w0 w1 : World} {f0 f1 : FP} {L1 L2 L3 : List HP} (C : Ctx w0 f0 L1 L2 w1 f1)
    (hL : L2 = own 31 (some ⟨b11, 0, none⟩) 1 1 [headBlk b6 b8] :: own 35 (some ⟨b8, 0, none⟩) 3 3 [hI1, hI2, hI3 b6] :: own 3 (some ⟨b6, 0, none⟩) 2 2 [(1 : Int), 2] :: L3) : RdD (okOf w1 f1) w1 (headF b6 b8 b11) := by
  subst hL
  have hargs : Dp.rd (okOf w1 f1) w1 (⟨some ⟨b6, 0, none⟩, 2, [1, 2]⟩ : Sl Int) := C.lit (e := 3) (l := 2) fun x hx => by
    simp only [List.mem_cons, List.not_mem_nil, or_false] at hx
    show wfi x
    unfold wfi
    omega
  have hins : Dp.rd (okOf w1 f1) w1 (⟨some ⟨b8, 0, none⟩, 3, [hI1, hI2, hI3 b6]⟩ : Sl SsaIns) := C.lit (e := 35) (l := 3) (all_cons ⟨by show wfi 1; unfold wfi; omega, by show wfi 1; unfold wfi; omega, Dp.dflt _ _, by show wfi 2; unfold wfi; omega, Dp.dflt _ _, Dp.dflt _ _, Dp.dflt _ _⟩
    (all_cons ⟨by show wfi 1; unfold wfi; omega, by show wfi 2; unfold wfi; omega, Dp.dflt _ _, by show wfi 3; unfold wfi; omega, Dp.dflt _ _, Dp.dflt _ _, Dp.dflt _ _⟩
    (all_cons ⟨by show wfi 2; unfold wfi; omega, by show wfi 3; unfold wfi; omega, hargs, Dp.dflt _ _, by show wfi 1; unfold wfi; omega, Dp.dflt _ _, Dp.dflt _ _⟩ all_nil)))
  have hb : Dp.rd (okOf w1 f1) w1 (⟨some ⟨b11, 0, none⟩, 1, [headBlk b6 b8]⟩ : Sl SsaBlock) := C.lit (e := 31) (l := 1) fun x hx => by
    rw [List.mem_singleton] at hx
    subst hx
    exact ⟨Dp.dflt _ _, hins, by show wfi 3; unfold wfi; omega, by show wfi 3; unfold wfi; omega, Dp.dflt _ _, Dp.dflt _ _⟩
  exact ⟨⟨trivial, hb⟩⟩
end
set_option maxHeartbeats 8000000 in
theorem head15_spec : Spec Try.prog 8 [] [] (fun _ _ => True) fun r L' => r = .bool true ∧ L' = [] := by
  refine spec_of Try.func8 rfl rfl fun w0 f0 _ => ?_
  (repeat' (first | refine s_assign ?_ | refine s_nil ?_ | (refine k_C ?_; first | refine s_seq ?_ | refine s_region ?_) | (refine k_E ?_; refine e_seq ?_)))
  refine s_bld hI1 (by kernel_rfl) ?_
  refine s_bld hI2 (by kernel_rfl) ?_
  refine s_lit (α := Int) [1, 2] rfl (by decide) (by kernel_rfl) ?_; intro b6
  refine s_bld (hI3 b6) (by kernel_rfl) ?_
  refine s_lit (α := SsaIns) [hI1, hI2, hI3 b6] rfl (by decide) (by kernel_rfl) ?_; intro b8
  refine s_bld (⟨3, 3, Enc.dflt, Enc.dflt⟩ : SsaEnd) (by kernel_rfl) ?_
  refine s_bld (headBlk b6 b8) (by kernel_rfl) ?_
  refine s_lit (α := SsaBlock) [headBlk b6 b8] rfl (by decide) (by kernel_rfl) ?_; intro b11
  refine s_bld (headF b6 b8 b11) (by kernel_rfl) ?_
  (repeat' (first | refine s_nil ?_ | (refine k_C ?_; first | refine s_seq ?_ | refine s_region ?_) | (refine k_E ?_; refine e_seq ?_) | (refine k_load ?_; refine s_ldBW rfl rfl ?_) | (refine k_store ?_; refine s_stW _ rfl rfl ?_) | (refine s_alloc ?_; intro b)))
  obtain ⟨b1, rfl⟩ : ∃ q, q = b := ⟨_, rfl⟩
  have hFo := head_okF (b6 := b6) (b8 := b8) (b11 := b11)
  have hB := headB_of (b6 := b6) (b8 := b8)
  refine so_sub (L' := [own 31 (some ⟨b11, 0, none⟩) 1 1 [headBlk b6 b8], own 35 (some ⟨b8, 0, none⟩) 3 3 [hI1, hI2, hI3 b6], own 3 (some ⟨b6, 0, none⟩) 2 2 [(1 : Int), 2], var 38 b1 (headF b6 b8 b11)]) (PSub.take [1, 1, 1, 0] rfl) ?_
  refine s_call [] (paint15_spec (headF b6 b8 b11) hFo.1 2) rfl rfl (fun w1 f1 C => head_rd C rfl) ?_
  rintro r L' (⟨h1, _⟩ | ⟨_, _, I, O, o, hQ, ho, ⟨rb, N, R, rfl, hP, rfl⟩ | ⟨rfl, hP, rfl⟩⟩)
  · omega
  rotate_left
  · rw [head_jobs hQ ho] at hP
    exact absurd hP hB.no
  rw [head_jobs hQ ho] at hP
  obtain rfl := hB.regs hP
  (repeat' (first | refine s_move ?_ | refine s_assign ?_ | refine s_nil ?_ | (refine k_C ?_; first | refine s_seq ?_ | refine s_region ?_) | (refine k_E ?_; refine e_seq ?_) | (refine k_bin ?_; refine s_eql rfl rfl ?_) | (refine k_guard ?_; refine s_on rfl rfl ?_) | refine s_extract rfl rfl ?_))
  refine s_lenC rfl ?_
  intro ks hks hkm
  have hlen : ks.length = 3 := by
    have h1 := nodup_le (us := [1, 2, 3]) hks fun k hk => by
      have hk := (hkm k).1 hk
      unfold regs3 upd at hk
      by_cases e1 : k = 3
      · simp [e1]
      · by_cases e2 : k = 2
        · simp [e2]
        · by_cases e3 : k = 1
          · simp [e3]
          · simp [e1, e2, e3] at hk
    have h2 := nodup_le (ks := [1, 2, 3]) (us := ks) (by simp) fun k hk => by
      refine (hkm k).2 ?_
      simp only [List.mem_cons, List.not_mem_nil, or_false] at hk
      rcases hk with rfl | rfl | rfl <;> simp [regs3, upd]
    simp only [List.length_cons, List.length_nil] at h1 h2
    omega
  rw [hlen]
  (repeat' (first | refine s_move ?_ | (refine k_bin ?_; refine s_eql rfl rfl ?_) | (refine k_guard ?_; refine s_on rfl rfl ?_) | refine s_pick rfl ?_))
  refine s_look rfl rfl (by unfold wfi; omega) ?_
  rw [show regs3 1 = some 0 from rfl, Option.getD_some]
  (repeat' (first | refine s_move ?_ | (refine k_bin ?_; refine s_eql rfl rfl ?_) | (refine k_guard ?_; refine s_on rfl rfl ?_) | refine s_pick rfl ?_))
  refine s_look rfl rfl (by unfold wfi; omega) ?_
  rw [show regs3 2 = some 1 from rfl, Option.getD_some]
  (repeat' (first | refine s_move ?_ | (refine k_bin ?_; refine s_eql rfl rfl ?_) | (refine k_guard ?_; refine s_on rfl rfl ?_) | refine s_pick rfl ?_))
  refine s_look rfl rfl (by unfold wfi; omega) ?_
  rw [show regs3 3 = some 0 from rfl, Option.getD_some]
  (repeat' (first | refine s_move ?_ | (refine k_load ?_; refine s_ldBW rfl rfl ?_) | (refine k_bin ?_; refine s_eql rfl rfl ?_) | (refine k_guard ?_; refine s_on rfl rfl ?_) | refine s_pick rfl ?_))
  refine so_sub (L' := [own 31 (some ⟨b11, 0, none⟩) 1 1 [headBlk b6 b8], own 35 (some ⟨b8, 0, none⟩) 3 3 [hI1, hI2, hI3 b6], own 3 (some ⟨b6, 0, none⟩) 2 2 [(1 : Int), 2], var 38 b1 (headF b6 b8 b11)]) (PSub.take [1, 1, 1, 1] rfl) ?_
  refine s_call [] (press15_spec (headF b6 b8 b11) hFo.1 hFo.2) rfl rfl (fun w1 f1 C => head_rd C rfl) ?_
  rintro r L' ⟨I, O, o, hQ, ho, rfl, rfl⟩
  rw [head_press hQ ho]
  (repeat' (first | refine s_assign ?_ | refine s_nil ?_ | (refine k_C ?_; refine s_ret ?_) | (refine k_E ?_; refine e_seq ?_) | (refine k_bin ?_; refine s_eql rfl rfl ?_) | (refine k_guard ?_; refine s_on rfl rfl ?_) | refine s_pick rfl ?_))
  exact e_done rfl rfl [] (PSub.take [] rfl) ⟨rfl, rfl⟩

theorem Ctx.rowsRd {w0 w1 : World} {f0 f1 : FP} {L1 L2 : List HP} {ss : List (Sl Int)} (C : Ctx w0 f0 L1 L2 w1 f1) (i : Nat) (hi : L2[i]? = some (rws 3 ss)) (hd : ∀ s ∈ ss, ∀ x ∈ s.xs, wfi x) : ∀ s ∈ ss, Dp.rd (okOf w1 f1) w1 s := fun s hs => by
  obtain ⟨g, hg, hok⟩ := C.piece hi
  obtain ⟨g1, h1, h2⟩ := star_mem hg hs
  exact (own_rd h1 (fun b hb => hok b (h2 b hb)) (hd s hs)).h
theorem line_rd {w0 w1 : World} {f0 f1 : FP} {L1 L2 L3 : List HP} {n : Nat} (hn : 1 ≤ n) (hn2 : n ≤ 64) {A A2 : Option Addr} {c : Nat} {ags : List (Sl Int)} (ha : ArgsOk n (n - 1) ags) (C : Ctx w0 f0 L1 L2 w1 f1)
    (hL : L2 = own 31 A2 1 1 [lineBlk n A c ags] :: own 35 A (csI n ++ bsI n ags).length c (csI n ++ bsI n ags) :: rws 3 ags :: L3) : RdD (okOf w1 f1) w1 (lineF n A c ags A2) := by
  subst hL
  have hrows := C.rowsRd 2 rfl (fun s hs x hx => by
    obtain ⟨m, hm, rfl⟩ := List.getElem_of_mem hs
    rw [← nth_get hm, ha.x m (by rw [← ha.l]; exact hm)] at hx
    rw [ha.l] at hm
    simp only [List.mem_cons, List.not_mem_nil, or_false] at hx
    unfold wfi
    rcases hx with rfl | rfl
    · rcases lastv_at (n := n) (m := m) with ⟨h1, _⟩ | ⟨h1, _⟩ <;> rw [h1] <;> omega
    · omega)
  have hins : Dp.rd (okOf w1 f1) w1 (⟨A, c, csI n ++ bsI n ags⟩ : Sl SsaIns) := C.lit (e := 35) (l := (csI n ++ bsI n ags).length) fun x hx => by
    rcases List.mem_append.1 hx with hx | hx
    · obtain ⟨k, hk, rfl⟩ := List.mem_map.1 hx
      have := List.mem_range.1 hk
      exact ⟨by show wfi 1; unfold wfi; omega, by show wfi ((k + 1 : Nat) : Int); unfold wfi; omega, Dp.dflt _ _, Dp.dflt _ _, Dp.dflt _ _, Dp.dflt _ _, Dp.dflt _ _⟩
    · obtain ⟨k, hk, rfl⟩ := List.mem_map.1 hx
      have hk := List.mem_range.1 hk
      have hk2 := hk
      rw [ha.l] at hk2
      exact ⟨by show wfi 2; unfold wfi; omega, by show wfi ((n + (k + 2) : Nat) : Int); unfold wfi; omega, hrows _ (nth_mem hk), Dp.dflt _ _, by show wfi 1; unfold wfi; omega, Dp.dflt _ _, Dp.dflt _ _⟩
  have hlv : wfi (lastv n (n - 1)) := by
    unfold wfi
    rcases lastv_at (n := n) (m := n - 1) with ⟨h1, _⟩ | ⟨h1, _⟩ <;> rw [h1] <;> omega
  have hb : Dp.rd (okOf w1 f1) w1 (⟨A2, 1, [lineBlk n A c ags]⟩ : Sl SsaBlock) := C.lit (e := 31) (l := 1) fun x hx => by
    rw [List.mem_singleton] at hx
    subst hx
    exact ⟨Dp.dflt _ _, hins, by show wfi 3; unfold wfi; omega, hlv, Dp.dflt _ _, Dp.dflt _ _⟩
  exact ⟨⟨trivial, hb⟩⟩
theorem set_len1 {xs : List SsaIns} {a : SsaIns} {A A0 : Option Addr} {c c0 : Nat} {p : Sl Int} {e : SsaEnd} : (Enc.enc (⟨p, ⟨A0, c0, xs⟩, e⟩ : SsaBlock)).set 1 (.slice A (xs.length + 1) c) = Enc.enc (⟨p, ⟨A, c, xs ++ [a]⟩, e⟩ : SsaBlock) := by
  have h : xs.length + 1 = (xs ++ [a]).length := by simp
  rw [h]; rfl
set_option maxHeartbeats 8000000 in
theorem liveLine_spec (a : Int) : Spec Try.prog 3 [.int .i64 a] [] (fun _ _ => True) fun r L' => r = .bool true ∧ L' = [] := by
  refine spec_of Try.func3 rfl rfl fun w0 f0 _ => ?_
  (repeat' (first | refine s_assign ?_ | refine s_nil ?_ | (refine k_C ?_; first | refine s_seq ?_ | refine s_region ?_) | (refine k_E ?_; refine e_seq ?_)))
  refine s_call0 head15_spec rfl (fun _ _ => trivial) ?_
  rintro r L' ⟨rfl, rfl⟩
  (repeat' (first | refine s_move ?_ | refine s_nil ?_ | (refine k_C ?_; first | refine s_seq ?_ | refine s_region ?_ | refine s_skip ?_ | refine s_iff rfl ?_) | (refine k_E ?_; refine e_seq ?_) | refine s_not rfl ?_))
  refine s_andM (c := 63) rfl rfl (by decide) ?_
  intro k hk
  (repeat' (first | refine s_assign ?_ | refine s_nil ?_ | (refine k_C ?_; first | refine s_seq ?_ | refine s_region ?_) | (refine k_E ?_; refine e_seq ?_) | (refine k_bin ?_; refine s_add64 rfl rfl om ?_)))
  have hkn : (1 : Int) + (k : Int) = ((k + 1 : Nat) : Int) := by omega
  rw [hkn]
  generalize hnd : k + 1 = n
  have hn : 1 ≤ n := by omega
  have hn2 : n ≤ 64 := by omega
  clear hkn
  refine s_bld (Enc.dflt : SsaBlock) (by kernel_rfl) ?_
  (repeat' (first | refine s_assign ?_ | refine s_nil ?_ | (refine k_C ?_; first | refine s_seq ?_ | refine s_region ?_ | refine s_block ?_) | (refine k_E ?_; refine e_seq ?_) | (refine k_store ?_; refine s_stW _ rfl rfl ?_) | (refine s_alloc ?_; intro b)))
  obtain ⟨b3, rfl⟩ : ∃ q, q = b := ⟨_, rfl⟩
  refine s_loop (σ := Nat × Option Addr × Nat) (fun z => [(0, .int .i64 (n : Int)), (3, .pointer (some ⟨b3, 0, none⟩)), (4, .int .i64 ((z.1 + 1 : Nat) : Int))])
    (fun z => [own 35 z.2.1 (csI z.1).length z.2.2 (csI z.1), var 31 b3 (⟨Enc.dflt, ⟨z.2.1, z.2.2, csI z.1⟩, Enc.dflt⟩ : SsaBlock)]) (fun z => z.1 ≤ n) (fun z => n - z.1) (0, none, 0) (by repeat (first | exact trivial | refine ⟨rfl, ?_⟩)) (Nat.zero_le _) (PSub.nilOwn (α := SsaIns) 35) ?_
  rintro g ⟨i, A, c⟩ hi
  dsimp only at hi ⊢
  have hcl : (csI i).length = i := by simp [csI]
  (repeat' (first | refine s_move ?_ | refine s_nil ?_ | (refine k_C ?_; first | refine s_seq ?_ | refine s_region ?_) | (refine k_E ?_; refine e_seq ?_) | (refine k_bin ?_; refine s_leq rfl rfl ?_)))
  (first | (refine k_C ?_; (refine s_ifd rfl ?_ ?_ <;> intro hc <;> try (exfalso; omega))))
  · have hin : i < n := by omega
    (repeat' (first | refine s_move ?_ | (refine k_C ?_; first | refine s_seq ?_ | refine s_region ?_ | refine s_skip ?_ | refine s_block ?_) | (refine k_E ?_; refine e_seq ?_) | (refine k_load ?_; refine s_ldB rfl rfl ?_) | (refine k_fld ?_; refine s_fldB rfl ?_)))
    refine s_bld (constI i) (by kernel_rfl) ?_
    (repeat' (first | (refine k_fld ?_; refine s_fldB rfl ?_) | (refine s_app1 _ (fun _ => rfl) rfl om ?_; intro v A c)))
    refine s_stB (⟨Enc.dflt, ⟨A, c, csI (i + 1)⟩, Enc.dflt⟩ : SsaBlock) rfl rfl (by rw [csI_succ]; exact set_len1) (by decide) ?_
    (repeat' (first | refine s_move ?_ | refine s_assign ?_ | refine s_nil ?_ | (refine k_C ?_; refine s_region ?_) | (refine k_E ?_; first | refine e_seq ?_ | refine e_bk ?_) | (refine k_bin ?_; refine s_add1 rfl rfl om ?_)))
    exact e_lp (i + 1, A, c) (by repeat (first | exact trivial | refine ⟨rfl, ?_⟩)) (by show i + 1 ≤ _; omega) (by show _ - _ < _ - _; omega) (PSub.eq (by dsimp only; rw [csI_succ, List.length_append]; rfl))
  have hiE : n = i := by omega
  subst hiE
  (repeat' (first | refine s_assign ?_ | refine s_nil ?_ | (refine k_C ?_; first | refine s_seq ?_ | refine s_region ?_ | refine s_block ?_ | refine s_exit ?_) | (refine k_E ?_; first | refine e_seq ?_ | refine e_seq_exit ?_ | refine e_bk_exit ?_ | refine e_lp_exit ?_)))
  refine s_loop (σ := Nat × Int × Option Addr × Nat × List (Sl Int)) (fun z => [(0, .int .i64 (n : Int)), (3, .pointer (some ⟨b3, 0, none⟩)), (5, .int .i64 z.2.1), (6, .int .i64 ((z.1 + 2 : Nat) : Int))])
    (fun z => [own 35 z.2.2.1 (csI n ++ bsI n z.2.2.2.2).length z.2.2.2.1 (csI n ++ bsI n z.2.2.2.2), var 31 b3 (⟨Enc.dflt, ⟨z.2.2.1, z.2.2.2.1, csI n ++ bsI n z.2.2.2.2⟩, Enc.dflt⟩ : SsaBlock), rws 3 z.2.2.2.2]) (fun z => z.1 + 1 ≤ n ∧ z.2.1 = lastv n z.1 ∧ ArgsOk n z.1 z.2.2.2.2) (fun z => n - z.1) (0, 1, A, c, []) (by repeat (first | exact trivial | refine ⟨rfl, ?_⟩)) ⟨hn, rfl, rfl, fun m hm => absurd hm (Nat.not_lt_zero m)⟩ ?_ ?_
  · have e : bsI n [] = [] := rfl
    dsimp only
    rw [e, List.append_nil]
    exact (PSub.nilRws _).trans (PSub.take [1, 1, 0] rfl)
  rintro g ⟨j, ls, A, c, ags⟩ ⟨hj, hls, ha⟩
  dsimp only at hj hls ha ⊢
  have hll : (csI n ++ bsI n ags).length = n + j := by rw [List.length_append, hcl]; unfold bsI; rw [List.length_map, List.length_range, ha.l]
  (repeat' (first | refine s_move ?_ | refine s_nil ?_ | (refine k_C ?_; first | refine s_seq ?_ | refine s_region ?_) | (refine k_E ?_; refine e_seq ?_) | (refine k_bin ?_; refine s_leq rfl rfl ?_)))
  (first | (refine k_C ?_; (refine s_ifd rfl ?_ ?_ <;> intro hc <;> try (exfalso; omega))))
  · have hjn : j + 1 < n := by omega
    have hxl := ha.l
    (repeat' (first | refine s_move ?_ | (refine k_C ?_; first | refine s_seq ?_ | refine s_region ?_ | refine s_skip ?_ | refine s_block ?_) | (refine k_E ?_; refine e_seq ?_) | (refine k_load ?_; refine s_ldB rfl rfl ?_) | (refine k_bin ?_; refine s_add64 rfl rfl om ?_) | (refine k_fld ?_; refine s_fldB rfl ?_) | (refine s_lit [_, _] rfl (by decide) rfl ?_; intro b)))
    obtain ⟨bb, rfl⟩ : ∃ q, q = b := ⟨_, rfl⟩
    refine s_bld (binI n j (⟨some ⟨bb, 0, none⟩, 2, [ls, ((j + 2 : Nat) : Int)]⟩ : Sl Int)) (by kernel_rfl) ?_
    refine s_app1 (binI n j (⟨some ⟨bb, 0, none⟩, 2, [ls, ((j + 2 : Nat) : Int)]⟩ : Sl Int)) (fun _ => rfl) rfl (by rw [hll]; omega) ?_
    intro v A c
    (repeat' (first | (refine k_fld ?_; refine s_fldB rfl ?_)))
    have hbs : csI n ++ bsI n (ags ++ [(⟨some ⟨bb, 0, none⟩, 2, [ls, ((j + 2 : Nat) : Int)]⟩ : Sl Int)]) = csI n ++ bsI n ags ++ [binI n j (⟨some ⟨bb, 0, none⟩, 2, [ls, ((j + 2 : Nat) : Int)]⟩ : Sl Int)] := by rw [bsI_succ, hxl, List.append_assoc]
    have hl1 : ∀ x, (csI n ++ bsI n ags ++ [x]).length = (csI n ++ bsI n ags).length + 1 := fun x => by rw [List.length_append]; rfl
    refine s_stB (⟨Enc.dflt, ⟨A, c, csI n ++ bsI n (ags ++ [(⟨some ⟨bb, 0, none⟩, 2, [ls, ((j + 2 : Nat) : Int)]⟩ : Sl Int)])⟩, Enc.dflt⟩ : SsaBlock) rfl rfl (by rw [hbs]; exact set_len1) (by decide) ?_
    (repeat' (first | refine s_move ?_ | refine s_assign ?_ | refine s_nil ?_ | (refine k_C ?_; refine s_region ?_) | (refine k_E ?_; first | refine e_seq ?_ | refine e_bk ?_) | (refine k_bin ?_; first | refine s_add1 rfl rfl om ?_ | refine s_add64 rfl rfl om ?_)))
    refine e_lp (j + 1, (n : Int) + ((j + 2 : Nat) : Int), A, c, ags ++ [(⟨some ⟨bb, 0, none⟩, 2, [ls, ((j + 2 : Nat) : Int)]⟩ : Sl Int)]) (by repeat (first | exact trivial | refine ⟨rfl, ?_⟩)) ⟨by show j + 1 + 1 ≤ _; omega, by show (n : Int) + ((j + 2 : Nat) : Int) = lastv n (j + 1); rw [lastv_succ]; omega, by show (ags ++ [_]).length = _; rw [List.length_append, hxl]; rfl, fun m hm => ?_⟩ (by show _ - _ < _ - _; omega) ((PSub.take [3, 0, 0, 0] rfl).trans ((PSub.join (by rfl)).trans ((PSub.take [1, 1, 0] rfl).trans (PSub.eq (by dsimp only; rw [hbs, hl1] <;> rfl)))))
    have hm : m < j + 1 := hm
    show (nth (ags ++ [_]) m).xs = _
    rw [nth_app]
    by_cases hmj : m < j
    · rw [if_pos (by omega)]; exact ha.x m hmj
    · obtain rfl : m = j := by omega
      rw [if_neg (by omega), hxl, Nat.sub_self, ← hls]
      rfl
  have hjE : j = n - 1 := by omega
  rw [hjE] at ha
  (repeat' (first | refine s_move ?_ | (refine k_C ?_; first | refine s_seq ?_ | refine s_region ?_ | refine s_exit ?_) | (refine k_E ?_; first | refine e_seq ?_ | refine e_seq_exit ?_ | refine e_bk_exit ?_ | refine e_lp_exit ?_)))
  refine s_bld (⟨3, ls, Enc.dflt, Enc.dflt⟩ : SsaEnd) (by kernel_rfl) ?_
  (repeat' (first | (refine k_fld ?_; refine s_fldB rfl ?_)))
  refine s_stBF (lineBlk n A c ags) rfl (q := 4) rfl (by rw [hls, hjE]; kernel_rfl) (by decide) ?_
  (repeat' (first | refine s_nil ?_ | (refine k_C ?_; first | refine s_seq ?_ | refine s_region ?_) | (refine k_E ?_; refine e_seq ?_) | (refine k_load ?_; refine s_ldBW rfl rfl ?_) | (refine s_lit [_] rfl (by decide) rfl ?_; intro b)))
  obtain ⟨b7, rfl⟩ : ∃ q, q = b := ⟨_, rfl⟩
  refine s_bld (lineF n A c ags (some ⟨b7, 0, none⟩)) (by kernel_rfl) ?_
  (repeat' (first | refine s_move ?_ | refine s_nil ?_ | (refine k_C ?_; first | refine s_seq ?_ | refine s_region ?_) | (refine k_E ?_; refine e_seq ?_) | (refine k_load ?_; refine s_ldBW rfl rfl ?_) | (refine k_store ?_; refine s_stW _ rfl rfl ?_) | (refine s_alloc ?_; intro b)))
  obtain ⟨b8, rfl⟩ : ∃ q, q = b := ⟨_, rfl⟩
  have hFo := line_okF (A := A) (c := c) (A2 := some ⟨b7, 0, none⟩) hn hn2 ha
  have hB := lineB (A := A) (c := c) hn ha
  have hJ := @line_jobs n hn A c ags (some ⟨b7, 0, none⟩) ha
  refine so_sub (L' := [own 31 (some ⟨b7, 0, none⟩) 1 1 [lineBlk n A c ags], own 35 A (csI n ++ bsI n ags).length c (csI n ++ bsI n ags), rws 3 ags, var 38 b8 (lineF n A c ags (some ⟨b7, 0, none⟩))]) (PSub.take [1, 1, 2, 0] rfl) ?_
  refine s_call [] (paint15_spec (lineF n A c ags (some ⟨b7, 0, none⟩)) hFo.1 n) rfl rfl (fun w1 f1 C => line_rd hn hn2 ha C rfl) ?_
  rintro r L' (⟨h1, _⟩ | ⟨_, _, I, O, o, hQ, ho, ⟨rb, N, R, rfl, hP, rfl⟩ | ⟨rfl, hP, rfl⟩⟩)
  · omega
  rotate_left
  · rw [hJ hQ ho, Int.toNat_natCast] at hP
    exact absurd hP hB.enough
  (repeat' (first | refine s_move ?_ | refine s_assign ?_ | refine s_nil ?_ | (refine k_C ?_; first | refine s_seq ?_ | refine s_region ?_) | (refine k_E ?_; refine e_seq ?_) | (refine k_load ?_; refine s_ldBW rfl rfl ?_) | (refine k_bin ?_; refine s_sub64 rfl rfl om ?_) | refine s_extract rfl rfl ?_))
  refine so_sub (L' := [own 31 (some ⟨b7, 0, none⟩) 1 1 [lineBlk n A c ags], own 35 A (csI n ++ bsI n ags).length c (csI n ++ bsI n ags), rws 3 ags, var 38 b8 (lineF n A c ags (some ⟨b7, 0, none⟩))]) (PSub.take [1, 1, 1, 1] rfl) ?_
  refine s_call [] (paint15_spec (lineF n A c ags (some ⟨b7, 0, none⟩)) hFo.1 ((n : Int) - 1)) rfl rfl (fun w1 f1 C => line_rd hn hn2 ha C rfl) ?_
  rintro r L' (⟨h1, rfl, rfl⟩ | ⟨h1, _, I, O, o, hQ, ho, ⟨rb2, N2, R2, rfl, hP, rfl⟩ | ⟨rfl, hP, rfl⟩⟩)
  · have hn1 : n = 1 := by omega
    (repeat' (first | refine s_move ?_ | refine s_assign ?_ | refine s_nil ?_ | (refine k_C ?_; first | refine s_seq ?_ | refine s_region ?_) | (refine k_E ?_; refine e_seq ?_) | (refine k_load ?_; refine s_ldBW rfl rfl ?_) | refine s_extract rfl rfl ?_))
    refine s_call [] (press15_spec (lineF n A c ags (some ⟨b7, 0, none⟩)) hFo.1 hFo.2) rfl rfl (fun w1 f1 C => line_rd hn hn2 ha C rfl) ?_
    rintro r L' ⟨I, O, o, hQ, ho, rfl, rfl⟩
    rw [line_press hn ha hQ ho]
    (repeat' (first | refine s_move ?_ | refine s_assign ?_ | refine s_nil ?_ | (refine k_C ?_; refine s_ret ?_) | (refine k_E ?_; refine e_seq ?_) | (refine k_bin ?_; refine s_eql rfl rfl ?_) | (refine k_guard ?_; first | refine s_on rfl rfl ?_ | refine s_off rfl rfl rfl rfl ?_ | refine s_offU rfl rfl rfl rfl ?_ | (refine s_casesd rfl rfl ?_ ?_ <;> intro hc <;> try (exfalso; omega))) | refine s_pick rfl ?_))
    exact e_done rfl rfl [] (PSub.take [] rfl) ⟨rfl, rfl⟩
  · rw [hJ hQ ho] at hP
    exact absurd hP (hB.few (by omega))
  have hn1 : 2 ≤ n := by omega
  (repeat' (first | refine s_move ?_ | refine s_assign ?_ | refine s_nil ?_ | (refine k_C ?_; first | refine s_seq ?_ | refine s_region ?_) | (refine k_E ?_; refine e_seq ?_) | (refine k_load ?_; refine s_ldBW rfl rfl ?_) | refine s_extract rfl rfl ?_))
  refine s_call [] (press15_spec (lineF n A c ags (some ⟨b7, 0, none⟩)) hFo.1 hFo.2) rfl rfl (fun w1 f1 C => line_rd hn hn2 ha C rfl) ?_
  rintro r L' ⟨I, O, o, hQ, ho, rfl, rfl⟩
  rw [line_press hn ha hQ ho]
  (repeat' (first | refine s_move ?_ | refine s_assign ?_ | refine s_nil ?_ | (refine k_C ?_; refine s_ret ?_) | (refine k_E ?_; refine e_seq ?_) | (refine k_bin ?_; first | refine s_eql rfl rfl ?_ | refine s_gtr rfl rfl ?_) | (refine k_guard ?_; first | refine s_on rfl rfl ?_ | refine s_off rfl rfl rfl rfl ?_ | (refine s_casesd rfl rfl ?_ ?_ <;> intro hc <;> try (exfalso; omega))) | refine s_pick rfl ?_))
  exact e_done rfl rfl [] (PSub.take [] rfl) ⟨rfl, rfl⟩
end Go.Proofs.Ytfplmdjlgjgbgaa
