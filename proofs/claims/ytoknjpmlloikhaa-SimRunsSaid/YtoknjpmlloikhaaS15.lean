/- Layer 7: known, walked. -/
import Derived.Test.YtoknjpmlloikhaaS7
import Derived.Test.YtoknjpmlloikhaaS1
namespace Go.Proofs.Ytoknjpmlloikhaa
set_option linter.unusedVariables false
set_option linter.unusedSimpArgs false
open Go Go.RowKit

/-- The sets as they lie: where, and how great. -/
def At7 (pos : List (Option Nat)) (ms : List Mp7) : Prop := ∀ q, some q ∈ pos → (ms.map (·.n)).getD q 0 ≤ 2000 * cnt7 pos
def kn (pos : List (Option Nat)) (ms : List Mp7) : Kn7 := ⟨pos, ms.map (·.l)⟩
theorem PSub.to3 {w0 : World} {f0 : FP} {a b c : HP} {L : List HP} : PSub w0 f0 (a :: b :: c :: L) (c :: a :: b :: L) := fun w H => by
  have := H.pick [2]; exact this
theorem PSub.to2nd {w0 : World} {f0 : FP} {a b c d : HP} {L : List HP} : PSub w0 f0 (a :: b :: c :: d :: L) (a :: d :: b :: c :: L) := fun w H => by
  have := H.pick [0, 2]; exact this
theorem PSub.bagNew' {w0 : World} {f0 : FP} {L : List HP} {ms : List Mp7} {m : Mp7} {F : Int → Option Bool} (hF : F = setF m.l) : PSub w0 f0 (mp EB 3 m.id m.n F :: bag7 ms :: L) (bag7 (ms ++ [m]) :: L) := by
  subst hF; exact PSub.bagNew m
theorem idsOf_more {ms : List Mp7} {m : Mp7} {pos : List (Option Nat)} (h : ∀ q, some q ∈ pos → q < ms.length) : idsOf (ms ++ [m]) pos = idsOf ms pos := by
  unfold idsOf
  refine List.map_congr_left fun p hp => ?_
  cases p with
  | none => rfl
  | some q =>
    have := h q hp
    simp [this, List.getElem?_append_left]
theorem At7.more {ms : List Mp7} {m : Mp7} {pos : List (Option Nat)} (h : At7 pos ms) (hq : ∀ q, some q ∈ pos → q < ms.length) : At7 pos (ms ++ [m]) := by
  intro q hq'
  have h1 := hq q hq'
  have h2 := h q hq'
  rw [List.map_append]
  simpa [h1, List.getElem?_append_left] using h2
theorem meet7_at {pos : List (Option Nat)} {ms ms' : List Mp7} {ls : List (List Int)} {k q : Nat} (hk : k < pos.length) (h : At7 pos ms) (hn : ms'.map (·.n) = ms.map (·.n)) (hq : (ms.map (·.n)).getD q 0 ≤ 2000 * cnt7 pos + 2000) :
    At7 (meet7 ⟨pos, ls⟩ k q).2.pos ms' ∧ cnt7 pos ≤ cnt7 (meet7 ⟨pos, ls⟩ k q).2.pos := by
  unfold At7
  rw [hn]
  unfold meet7
  split
  · rename_i hp
    dsimp only at hp ⊢
    have hc := cnt7_set (q := q) hk hp
    rw [hc]
    refine ⟨fun r hr => ?_, by omega⟩
    rcases List.mem_or_eq_of_mem_set hr with hr | hr
    · have := h r hr; omega
    · cases hr; omega
  · split <;> exact ⟨h, Nat.le_refl _⟩
section
variable {w0 : World} {f0 : FP} {L : List HP} {n : Nat} {ops : Array Oper} {QC : Exit → Fr → World → Prop} {f : Fr} {rest : List Oper} {ty : TypeId} {pos' : String} {after : Array Edge}
theorem s_meet' {d : Option Tmp} {la : List Operand} {ats : Array TypeId} {A : Option Addr} {cc nn : Nat} {pos : List (Option Nat)} {ms : List Mp7} {k q : Nat} (hnn : pos.length = nn) (hv : la.map (ev f) = [.slice A nn cc, .int .i64 k, .map (some ((ms.map (·.id)).getD q 0))]) (hk : k < pos.length) (hl : pos.length < 1000000) (hq : q < ms.length) (hp : ∀ p, some p ∈ pos → p < ms.length)
    (hn : ∀ ms' : List Mp7, ms'.map (·.id) = ms.map (·.id) → ms'.map (·.n) = ms.map (·.n) → ms'.map (·.l) = (meet7 (kn pos ms) k q).2.ls → sO Try.prog n w0 f0 ops false rest QC (upO f d (.bool (meet7 (kn pos ms) k q).1)) (own 81 A nn cc (idsOf ms' (meet7 (kn pos ms) k q).2.pos) :: bag7 ms' :: L))
    (hd : dOk n d = true := by rfl) : sO Try.prog n w0 f0 ops false (⟨d, .call { callee := .value (.func 36), args := la.toArray, argTypes := ats }, ty, pos', after, none⟩ :: rest) QC f (own 81 A nn cc (idsOf ms pos) :: bag7 ms :: L) := by
  subst hnn
  exact s_meet hv hk hl hq (fun p hp' => hp p (by rw [← hp']; exact List.getElem_mem hk)) hn hd
end
set_option maxHeartbeats 2000000 in
theorem known7_spec (f : SsaFunc) (hf : FewF f) (he : ∀ i, i < f.fBlocks.xs.length → endsB f (nth f.fBlocks.xs i).fEnd = true) : Spec Try.prog 24 [.agg (Enc.enc f).toArray] [] (fun ok w => RdD ok w f) fun r L' => ∃ A c ms, r = .slice A f.fBlocks.xs.length c ∧ ms.map (·.l) = (known7 f).ls ∧ (known7 f).pos.length = f.fBlocks.xs.length ∧ (∀ q, some q ∈ (known7 f).pos → q < ms.length) ∧ (∀ q, some q ∈ (known7 f).pos → (ms.map (·.n)).getD q 0 ≤ 10000000) ∧ L' = [own 81 A f.fBlocks.xs.length c (idsOf ms (known7 f).pos), bag7 ms] := by
  refine spec_of Try.func24 rfl rfl fun w0 f0 hR => ?_
  have hb := hf.b
  (repeat' (first | refine s_assign ?_ | refine s_nil ?_ | (refine k_C ?_; first | refine s_seq ?_ | refine s_region ?_) | (refine k_E ?_; refine e_seq ?_) | (refine k_load ?_; first | refine s_ldB rfl rfl ?_ | refine s_ldBW rfl rfl ?_) | (refine k_fld ?_; refine s_fldB rfl ?_) | (refine k_call ?_; refine s_len rfl ?_) | (refine s_box _ rfl ?_; intro b) | (refine s_make rfl rfl om ?_; intro b)))
  rename_i b1
  obtain ⟨bi, rfl⟩ : ∃ q, q = b := ⟨_, rfl⟩
  refine s_call0 (reach7_spec f hf) rfl (fun w1 H => H.rdD hR) ?_
  rintro r L' ⟨A, c, rfl, rfl⟩
  (repeat' (first | refine s_assign ?_ | refine s_nil ?_ | (refine k_C ?_; first | refine s_seq ?_ | refine s_region ?_ | refine s_block ?_) | (refine k_E ?_; refine e_seq ?_)))
  refine s_loop (σ := Bool × List (Option Nat) × List Mp7) (fun s => [(1, .pointer (some ⟨b1, 0, none⟩)), (3, .slice (some ⟨bi, 0, none⟩) f.fBlocks.xs.length f.fBlocks.xs.length), (4, .slice A f.fBlocks.xs.length c), (5, .bool s.1)])
    (fun s => [own 81 (some ⟨bi, 0, none⟩) f.fBlocks.xs.length f.fBlocks.xs.length (idsOf s.2.2 s.2.1), bag7 s.2.2, own 4 A f.fBlocks.xs.length c (reachB7 f), var 63 b1 f])
    (fun s => Ok7 f (kn s.2.1 s.2.2) ∧ At7 s.2.1 s.2.2 ∧ (if s.1 = true then ∃ k, left7 (madeAll f.fBlocks.xs) (kn s.2.1 s.2.2) < k ∧ fix7 f (reachB7 f) k (kn s.2.1 s.2.2) = known7 f else kn s.2.1 s.2.2 = known7 f))
    (fun s => 2 * left7 (madeAll f.fBlocks.xs) (kn s.2.1 s.2.2) + s.1.toNat) (true, List.replicate f.fBlocks.xs.length none, []) (by repeat (first | exact trivial | refine ⟨rfl, ?_⟩)) ?_ (PSub.trans PSub.bagNil (PSub.take [2, 0, 0, 0] ?_)) ?_
  · refine ⟨⟨by simp [kn], fun q hq => ?_, fun l hl => ?_⟩, fun q hq => ?_, ?_⟩
    · exact absurd (List.eq_of_mem_replicate hq) (by simp)
    · cases hl
    · exact absurd (List.eq_of_mem_replicate hq) (by simp)
    · rw [if_pos rfl]
      refine ⟨_, ?_, rfl⟩
      show ((List.replicate f.fBlocks.xs.length none).map (valP7 _ _)).sum < _
      rw [List.map_replicate, List.sum_replicate_nat]
      show f.fBlocks.xs.length * ((madeAll f.fBlocks.xs).length + 1) < f.fBlocks.xs.length * ((madeAll f.fBlocks.xs).length + 2) + 1
      have := Nat.mul_le_mul_left f.fBlocks.xs.length (show (madeAll f.fBlocks.xs).length + 1 ≤ (madeAll f.fBlocks.xs).length + 2 by omega)
      omega
  · show [_, _, _, _] = [_, _, _, _]
    simp [idsOf]; try rfl
  rintro g ⟨tu, pos, ms⟩ ⟨hok, hat, hfx⟩
  dsimp only at hok hat hfx ⊢
  (repeat' (first | refine s_move ?_ | refine s_assign ?_ | refine s_nil ?_ | (refine k_C ?_; first | refine s_seq ?_ | refine s_region ?_ | refine s_skip ?_ | refine s_block ?_ | refine s_exit ?_ | refine s_ret ?_ | (refine s_if rfl ?_ ?_ <;> intro hc)) | (refine k_E ?_; first | refine e_seq ?_ | refine e_seq_exit ?_ | refine e_bk_exit ?_ | refine e_lp_exit ?_) | (refine k_load ?_; refine s_ldB rfl rfl ?_) | (refine k_fld ?_; refine s_fldB rfl ?_) | (refine k_call ?_; refine s_len rfl ?_)))
  · subst hc
    rw [if_pos rfl] at hfx
    obtain ⟨k, hk, hfx⟩ := hfx
    refine s_loop (σ := Nat × Bool × List (Option Nat) × List Mp7) (fun s => [(1, .pointer (some ⟨b1, 0, none⟩)), (3, .slice (some ⟨bi, 0, none⟩) f.fBlocks.xs.length f.fBlocks.xs.length), (4, .slice A f.fBlocks.xs.length c), (5, .bool s.2.1), (19, .slice f.fBlocks.A f.fBlocks.xs.length f.fBlocks.c), (20, .int .i64 f.fBlocks.xs.length), (21, .int .i64 s.1)])
      (fun s => [own 81 (some ⟨bi, 0, none⟩) f.fBlocks.xs.length f.fBlocks.xs.length (idsOf s.2.2.2 s.2.2.1), bag7 s.2.2.2, own 4 A f.fBlocks.xs.length c (reachB7 f), var 63 b1 f])
      (fun s => s.1 ≤ f.fBlocks.xs.length ∧ Ok7 f (kn s.2.2.1 s.2.2.2) ∧ At7 s.2.2.1 s.2.2.2 ∧ round7 f (reachB7 f) s.1 (false, kn pos ms) = (s.2.1, kn s.2.2.1 s.2.2.2)) (fun s => f.fBlocks.xs.length - s.1) (0, false, pos, ms) (by repeat (first | exact trivial | refine ⟨rfl, ?_⟩)) ⟨Nat.zero_le _, hok, hat, rfl⟩ PSub.refl ?_
    rintro g2 ⟨i, tu2, pos2, ms2⟩ ⟨hi, hok2, hat2, hrd⟩
    dsimp only at hi hok2 hat2 hrd ⊢
    have hpl : pos2.length = f.fBlocks.xs.length := hok2.1
    have hwl := hf.w i
    have hn : i < f.fBlocks.xs.length → ∃ h : i < pos2.length, nth (idsOf ms2 pos2) i = ⟨pos2[i].map fun q => (ms2.map (·.id)).getD q 0⟩ := fun h => ⟨by omega, idsOf_nth (ms := ms2) (show i < pos2.length by omega)⟩
    (repeat' (first | refine s_move ?_ | refine s_assign ?_ | refine s_nil ?_ | (refine k_C ?_; first | refine s_seq ?_ | refine s_region ?_ | refine s_skip ?_ | refine s_block ?_ | refine s_exit ?_ | refine s_ift rfl ?_ | refine s_iff rfl ?_ | (refine s_ifd rfl ?_ ?_ <;> intro hc <;> try (exfalso; omega))) | (refine k_E ?_; first | refine e_seq ?_ | refine e_seq_exit ?_ | refine e_bk_exit ?_ | refine e_bk ?_ | refine e_lp_exit ?_) | (refine k_load ?_; first | refine s_ld rfl om rfl ?_ | refine s_ldSA rfl rfl om rfl ?_) | (refine k_bin ?_; first | refine s_lss rfl rfl ?_ | refine s_add1 rfl rfl om ?_ | refine s_gtr rfl rfl ?_) | (refine k_idx ?_; first | refine s_idx rfl rfl om ?_ | refine s_idxS rfl rfl om ?_) | (refine k_store ?_; refine s_stW _ rfl rfl ?_) | (refine k_guard ?_; first | refine s_on rfl rfl ?_ | refine s_off rfl rfl rfl rfl ?_ | refine s_offU rfl rfl rfl rfl ?_ | (refine s_casesd rfl rfl ?_ ?_ <;> intro hc <;> try (exfalso; omega)) | (refine s_cases rfl rfl ?_ ?_ <;> intro hc)) | (refine s_alloc ?_; intro b) | refine s_not rfl ?_ | refine s_pick rfl ?_))
    · refine e_lp (i + 1, tu2, pos2, ms2) (by repeat (first | exact trivial | refine ⟨rfl, ?_⟩)) ⟨by show i + 1 ≤ _; omega, hok2, hat2, ?_⟩ (by show _ - _ < _ - _; omega) (PSub.take [1, 1, 1, 1] rfl)
      show blk7 f (reachB7 f) i (round7 f (reachB7 f) i _) = _
      rw [hrd, blk7_skip (.inl (by simpa using hc))]
    · rename_i hr
      have hr : nth (reachB7 f) i = true := by simpa using hr
      obtain ⟨hi2, hn⟩ := hn (by omega)
      refine s_mnil rfl rfl ?_
      rw [hn]
      cases hp : pos2[i]'(by omega) with
      | none =>
        (repeat' (first | refine s_move ?_ | refine s_nil ?_ | (refine k_C ?_; first | refine s_region ?_ | refine s_exit ?_ | refine s_ift rfl ?_) | (refine k_E ?_; first | refine e_seq ?_ | refine e_seq_exit ?_ | refine e_bk_exit ?_) | (refine k_bin ?_; refine s_add1 rfl rfl om ?_) | (refine k_guard ?_; refine s_on rfl rfl ?_) | refine s_pick rfl ?_))
        refine e_lp (i + 1, tu2, pos2, ms2) (by repeat (first | exact trivial | refine ⟨rfl, ?_⟩)) ⟨by show i + 1 ≤ _; omega, hok2, hat2, ?_⟩ (by show _ - _ < _ - _; omega) (PSub.take [1, 1, 1, 1] rfl)
        show blk7 f (reachB7 f) i (round7 f (reachB7 f) i _) = _
        rw [hrd, blk7_skip (.inr ⟨by omega, by show pos2[i]?.join = none; rw [List.getElem?_eq_getElem (by omega), hp]; rfl⟩)]
      | some q =>
        (repeat' (first | refine s_move ?_ | refine s_nil ?_ | (refine k_C ?_; first | refine s_seq ?_ | refine s_region ?_ | refine s_skip ?_ | refine s_iff rfl ?_) | (refine k_E ?_; refine e_seq ?_) | (refine k_load ?_; refine s_ld rfl om rfl ?_) | (refine k_idx ?_; refine s_idx rfl rfl om ?_) | (refine k_guard ?_; refine s_on rfl rfl ?_) | refine s_pick rfl ?_))
        refine s_mnil rfl rfl ?_
        rw [hn, hp]
        (repeat' (first | refine s_nil ?_ | (refine k_C ?_; first | refine s_seq ?_ | refine s_skip ?_ | refine s_iff rfl ?_) | (refine k_E ?_; refine e_seq ?_)))
        have hq2 : q < ms2.length := by have := hok2.2.1 q (by rw [← hp]; exact List.getElem_mem hi2); simpa [kn] using this
        have hb2 : blk7 f (reachB7 f) i (tu2, kn pos2 ms2) = ways7 ms2.length (nth f.fBlocks.xs i).fEnd.fWays.xs (tu2, in7 f i q (kn pos2 ms2)) := by
          rw [blk7_old (q := q) hr (by show pos2[i]?.join = some q; rw [List.getElem?_eq_getElem hi2, hp]; rfl)]; simp [kn]
        have hpi2 := hp
        have hi3 : i < pos2.length := by have := hok2.1; simp only [kn] at this; omega
        have hn3 : nth (idsOf ms2 pos2) i = ⟨some ms2[q].id⟩ := by rw [idsOf_nth hi3, hpi2]; simp [hq2]
        have hs3 : ms2[q].n ≤ 2000 * cnt7 pos2 := by
          have := hat2 q (by rw [← hpi2]; exact List.getElem_mem hi3)
          simpa [hq2] using this
        have hc3 : cnt7 pos2 ≤ 1000 := Nat.le_trans cnt7_le (by have := hok2.1; simp only [kn] at this; omega)
        have hp1 := hf.p i
        have hp2 := hf.i i
        have hv2 : ∀ q, some q ∈ pos2 → q < ms2.length := fun r hr => by simpa [kn] using hok2.2.1 r hr
        refine s_tail (F := ?FA) 5 [0, 1, 2, 3, 4] foI (by kernel_rfl) ?hreadA ?hrestA
        case hreadA =>
          change sO _ _ _ _ _ _ (_ :: _ :: _ :: _ :: _ :: []) _ _ _
          (repeat' (first | refine s_move ?_ | refine s_nil ?_ | (refine k_load ?_; first | refine s_ldBW rfl rfl ?_ | refine s_ld rfl om rfl ?_) | (refine k_idx ?_; refine s_idx rfl rfl om ?_)))
          exact e_F
        change sO _ _ _ _ _ _ (_ :: _ :: []) _ _ _
        refine so_sub PSub.to3 ?_
        refine so_sub (PSub.bagOut hq2) ?_
        refine s_call [] (after_spec (some ms2[q].id) ms2[q].n ms2[q].l (nth f.fBlocks.xs i) (by omega) (by omega) (by omega)) (by show [Value.map (nth (idsOf ms2 pos2) i).b, _] = _; rw [hn3]; rfl) rfl (fun w1 f1 C => ⟨C.map ms2[q].id, C.rd (by infer_instance)⟩) ?_
        rintro v L' ⟨q', N', rfl, hN', rfl⟩
        have e2 : in7 f i q (kn pos2 ms2) = kn pos2 (ms2 ++ [⟨q', N', ms2[q].l ++ madeB (nth f.fBlocks.xs i)⟩]) := by simp [in7, kn, hq2]
        refine so_sub PSub.roll ?_
        refine so_sub (PSub.bagIn ms2[q] hq2) ?_
        rw [List.set_getElem_self]
        refine so_sub PSub.swap ?_
        refine so_sub (PSub.bagNew ⟨q', N', ms2[q].l ++ madeB (nth f.fBlocks.xs i)⟩) ?_
        (repeat' (first | refine s_move ?_ | refine s_assign ?_ | refine s_nil ?_ | (refine k_C ?_; first | refine s_seq ?_ | refine s_region ?_ | refine s_block ?_) | (refine k_E ?_; refine e_seq ?_) | (refine k_load ?_; refine s_ldB rfl rfl ?_) | (refine k_fld ?_; refine s_fldB rfl ?_) | (refine k_call ?_; refine s_len rfl ?_)))
        refine s_loop (σ := Nat × Bool × List (Option Nat) × List Mp7) (fun s => [(1, .pointer (some ⟨b1, 0, none⟩)), (3, .slice (some ⟨bi, 0, none⟩) f.fBlocks.xs.length f.fBlocks.xs.length), (4, .slice A f.fBlocks.xs.length c), (5, .bool s.2.1), (8, .map (some q')), (19, .slice f.fBlocks.A f.fBlocks.xs.length f.fBlocks.c), (20, .int .i64 f.fBlocks.xs.length), (21, .int .i64 i), (59, .slice (nth f.fBlocks.xs i).fEnd.fWays.A (nth f.fBlocks.xs i).fEnd.fWays.xs.length (nth f.fBlocks.xs i).fEnd.fWays.c), (60, .int .i64 (nth f.fBlocks.xs i).fEnd.fWays.xs.length), (61, .int .i64 s.1)])
          (fun s => [own 81 (some ⟨bi, 0, none⟩) f.fBlocks.xs.length f.fBlocks.xs.length (idsOf s.2.2.2 s.2.2.1), bag7 s.2.2.2, own 4 A f.fBlocks.xs.length c (reachB7 f), var 63 b1 f])
          (fun s => s.1 ≤ (nth f.fBlocks.xs i).fEnd.fWays.xs.length ∧ Ok7 f (kn s.2.2.1 s.2.2.2) ∧ At7 s.2.2.1 s.2.2.2 ∧ cnt7 pos2 ≤ cnt7 s.2.2.1 ∧ s.2.2.2.map (·.id) = ms2.map (·.id) ++ [q'] ∧ s.2.2.2.map (·.n) = ms2.map (·.n) ++ [N'] ∧ ways7 ms2.length ((nth f.fBlocks.xs i).fEnd.fWays.xs.take s.1) (tu2, in7 f i q (kn pos2 ms2)) = (s.2.1, kn s.2.2.1 s.2.2.2))
          (fun s => (nth f.fBlocks.xs i).fEnd.fWays.xs.length - s.1) (0, tu2, pos2, ms2 ++ [⟨q', N', ms2[q].l ++ madeB (nth f.fBlocks.xs i)⟩]) (by repeat (first | exact trivial | refine ⟨rfl, ?_⟩)) ⟨Nat.zero_le _, ?_, ?_, Nat.le_refl _, by simp, by simp, ?_⟩ (PSub.take [2, 0, 1, 1] ?_) ?_
        · rw [← e2]; exact (hok2.in7 (by omega) (by simpa [kn] using hq2)).1
        · exact hat2.more hv2
        · rw [List.take_zero, ← e2]; rfl
        · show [_, _, _, _] = [own _ _ _ _ (idsOf (ms2 ++ _) pos2), _, _, _]
          rw [idsOf_more hv2]
          try rfl
        rintro g4 ⟨j, tu4, pos4, ms4⟩ ⟨hj, hok4, hat4, hc4, hid4, hn4, hw4⟩
        dsimp only at hj hok4 hat4 hc4 hid4 hn4 hw4 ⊢
        have hpl4 : pos4.length = f.fBlocks.xs.length := hok4.1
        have hml4 : ms4.length = ms2.length + 1 := by have := congrArg List.length hid4; simpa using this
        (repeat' (first | refine s_move ?_ | refine s_nil ?_ | (refine k_C ?_; first | refine s_seq ?_ | refine s_region ?_ | refine s_skip ?_ | refine s_block ?_ | refine s_exit ?_ | (refine s_ifd rfl ?_ ?_ <;> intro hc <;> try (exfalso; omega))) | (refine k_E ?_; first | refine e_seq ?_ | refine e_seq_exit ?_ | refine e_bk_exit ?_ | refine e_bk ?_ | refine e_lp_exit ?_) | (refine k_load ?_; first | refine s_ldB rfl rfl ?_ | refine s_ldSA rfl rfl om rfl ?_) | (refine k_bin ?_; first | refine s_lss rfl rfl ?_ | refine s_add1 rfl rfl om ?_) | (refine k_fld ?_; refine s_fldB rfl ?_) | (refine k_idx ?_; refine s_idxS rfl rfl om ?_) | (refine k_store ?_; refine s_stW _ rfl rfl ?_) | (refine s_alloc ?_; intro b)))
        · have hwj := ends_to (he i (by omega)) (nth_mem (xs := (nth f.fBlocks.xs i).fEnd.fWays.xs) (i := j) (by omega))
          refine so_sub PSub.roll ?_
          refine s_meet' (k := (nth (nth f.fBlocks.xs i).fEnd.fWays.xs j).fTo.toNat) (q := ms2.length) hpl4 (by
            refine List.cons_eq_cons.2 ⟨rfl, List.cons_eq_cons.2 ⟨?_, List.cons_eq_cons.2 ⟨?_, rfl⟩⟩⟩
            · show Value.int .i64 (nth (nth f.fBlocks.xs i).fEnd.fWays.xs j).fTo = _
              rw [Int.toNat_of_nonneg (by omega)]
            · show Value.map (some q') = _
              rw [hid4]; simp) (by omega) (by omega) (by omega) (fun p hp => by simpa [kn] using hok4.2.1 p hp) ?_
          intro ms5 hi5 hn5 hl5
          have e5 : kn (meet7 (kn pos4 ms4) (nth (nth f.fBlocks.xs i).fEnd.fWays.xs j).fTo.toNat ms2.length).2.pos ms5 = (meet7 (kn pos4 ms4) (nth (nth f.fBlocks.xs i).fEnd.fWays.xs j).fTo.toNat ms2.length).2 := by unfold kn at hl5 ⊢; rw [hl5]
          obtain ⟨ha5, hc5⟩ := meet7_at (ms := ms4) (ms' := ms5) (ls := ms4.map (·.l)) (k := (nth (nth f.fBlocks.xs i).fEnd.fWays.xs j).fTo.toNat) (q := ms2.length) (by omega) hat4 hn5 (by rw [hn4]; simp; omega)
          have hok5 : Ok7 f (kn (meet7 (kn pos4 ms4) (nth (nth f.fBlocks.xs i).fEnd.fWays.xs j).fTo.toNat ms2.length).2.pos ms5) := by
            rw [e5]
            exact hok4.ways (s := (tu4, kn pos4 ms4)) (a := [nth (nth f.fBlocks.xs i).fEnd.fWays.xs j]) (q := ms2.length) (by simp [kn]; omega) (fun w hw => by rw [List.mem_singleton] at hw; subst hw; exact hwj)
          have hw5 : ways7 ms2.length ((nth f.fBlocks.xs i).fEnd.fWays.xs.take (j + 1)) (tu2, in7 f i q (kn pos2 ms2)) = ((meet7 (kn pos4 ms4) (nth (nth f.fBlocks.xs i).fEnd.fWays.xs j).fTo.toNat ms2.length).1 || tu4, kn (meet7 (kn pos4 ms4) (nth (nth f.fBlocks.xs i).fEnd.fWays.xs j).fTo.toNat ms2.length).2.pos ms5) := by
            rw [← take_nth (by omega), ways7_app, hw4, e5]; rfl
          (repeat' (first | refine s_move ?_ | refine s_assign ?_ | refine s_nil ?_ | (refine k_C ?_; refine s_region ?_) | (refine k_E ?_; first | refine e_seq ?_ | refine e_bk ?_) | (refine k_bin ?_; refine s_add1 rfl rfl om ?_) | (refine k_guard ?_; first | refine s_on rfl rfl ?_ | refine s_off rfl rfl rfl rfl ?_ | (refine s_cases rfl rfl ?_ ?_ <;> intro hc)) | refine s_pick rfl ?_))
          · refine e_lp (j + 1, true, _, ms5) (by repeat (first | exact trivial | refine ⟨rfl, ?_⟩)) ⟨by show j + 1 ≤ _; omega, hok5, ha5, Nat.le_trans hc4 hc5, hi5.trans hid4, hn5.trans hn4, ?_⟩ (by show _ - _ < _ - _; omega) (PSub.take [0, 0, 1, 1] rfl)
            rw [hw5, hc]; rfl
          · refine e_lp (j + 1, tu4, _, ms5) (by repeat (first | exact trivial | refine ⟨rfl, ?_⟩)) ⟨by show j + 1 ≤ _; omega, hok5, ha5, Nat.le_trans hc4 hc5, hi5.trans hid4, hn5.trans hn4, ?_⟩ (by show _ - _ < _ - _; omega) (PSub.take [0, 0, 1, 1] rfl)
            rw [hw5, hc]; rfl
        · have hj' : j = (nth f.fBlocks.xs i).fEnd.fWays.xs.length := by omega
          subst hj'
          rw [List.take_length] at hw4
          refine e_lp (i + 1, tu4, pos4, ms4) (by repeat (first | exact trivial | refine ⟨rfl, ?_⟩)) ⟨by show i + 1 ≤ _; omega, hok4, hat4, ?_⟩ (by show _ - _ < _ - _; omega) (PSub.take [0, 0, 0, 0] rfl)
          show blk7 f (reachB7 f) i (round7 f (reachB7 f) i _) = _
          rw [hrd, hb2, hw4]
    · rename_i hr
      have hr : nth (reachB7 f) i = true := by simpa using hr
      obtain ⟨hi2, hn⟩ := hn (by omega)
      refine s_mnil rfl rfl ?_
      rw [hn]
      cases hp : pos2[i]'(by omega) with
      | none =>
        (repeat' (first | refine s_move ?_ | refine s_assign ?_ | refine s_nil ?_ | (refine k_C ?_; first | refine s_seq ?_ | refine s_region ?_ | refine s_ift rfl ?_) | (refine k_E ?_; refine e_seq ?_) | (refine k_idx ?_; refine s_idx rfl rfl om ?_) | (refine k_store ?_; refine s_st _ rfl rfl om ?_) | (refine s_mkmapB ?_; intro b)))
        obtain ⟨bn, rfl⟩ : ∃ q, q = b := ⟨_, rfl⟩
        obtain ⟨pos3, ms3, q, hP, hM, hQ⟩ : ∃ p m q, p = pos2.set i (some ms2.length) ∧ m = ms2 ++ [Mp7.mk bn 0 []] ∧ q = ms2.length := ⟨_, _, _, rfl, rfl, rfl⟩
        have hset : (idsOf ms2 pos2).set i ⟨some bn⟩ = idsOf ms3 pos3 := by
          have hv : ∀ q, some q ∈ pos2 → q < ms2.length := fun r hr => by simpa [kn] using hok2.2.1 r hr
          rw [hP, hM, ← idsOf_more (m := ⟨bn, 0, []⟩) hv]
          unfold idsOf
          rw [List.map_set]; simp
        have hq3 : q < ms3.length := by rw [hM, hQ]; simp
        have hok3 : Ok7 f (kn pos3 ms3) := by
          have := (hok2.new7 (n := i) (by omega) (by show pos2[i]?.join = none; rw [List.getElem?_eq_getElem hi2, hp]; rfl)).1
          rw [hP, hM]
          simpa [kn, new7] using this
        have hat3 : At7 pos3 ms3 := by
          rw [hP, hM]
          intro r hr
          rw [cnt7_set hi2 (by rw [List.getElem?_eq_getElem hi2, hp]; rfl)]
          rcases List.mem_or_eq_of_mem_set hr with hr | hr
          · have := (hat2.more (m := ⟨bn, 0, []⟩) (fun r hr => by simpa [kn] using hok2.2.1 r hr)) r hr
            omega
          · cases hr; simp
        obtain ⟨hi3', hpi3⟩ : ∃ h : i < pos3.length, pos3[i] = some q := by
          subst hP; exact ⟨by simp; omega, by simp [hQ]⟩
        have hb3 : blk7 f (reachB7 f) i (tu2, kn pos2 ms2) = ways7 ms3.length (nth f.fBlocks.xs i).fEnd.fWays.xs (true, in7 f i q (kn pos3 ms3)) := by
          rw [hP, hM, hQ, blk7_new hi2 hr (by omega) (by show pos2[i]?.join = none; rw [List.getElem?_eq_getElem hi2, hp]; rfl)]
          simp [kn, new7]
        rw [hset]
        refine s_sub PSub.to2nd (s_sub (PSub.bagNew' (m := ⟨bn, 0, []⟩) setF_nil) ?_)
        rw [← hM]
        have hi3 : i < pos3.length := by have := hok3.1; simp only [kn] at this; omega
        have hn3 : nth (idsOf ms3 pos3) i = ⟨some ms3[q].id⟩ := by rw [idsOf_nth hi3, hpi3]; simp [hq3]
        have hs3 : ms3[q].n ≤ 2000 * cnt7 pos3 := by
          have := hat3 q (by rw [← hpi3]; exact List.getElem_mem hi3)
          simpa [hq3] using this
        have hc3 : cnt7 pos3 ≤ 1000 := Nat.le_trans cnt7_le (by have := hok3.1; simp only [kn] at this; omega)
        have hp1 := hf.p i
        have hp2 := hf.i i
        have hv3 : ∀ q, some q ∈ pos3 → q < ms3.length := fun r hr => by simpa [kn] using hok3.2.1 r hr
        refine s_tail (F := ?FC) 5 [0, 1, 2, 3, 4] foI (by kernel_rfl) ?hreadC ?hrestC
        case hreadC =>
          change sO _ _ _ _ _ _ (_ :: _ :: _ :: _ :: _ :: []) _ _ _
          (repeat' (first | refine s_move ?_ | refine s_nil ?_ | (refine k_load ?_; first | refine s_ldBW rfl rfl ?_ | refine s_ld rfl om rfl ?_) | (refine k_idx ?_; refine s_idx rfl rfl om ?_)))
          exact e_F
        change sO _ _ _ _ _ _ (_ :: _ :: []) _ _ _
        refine so_sub (PSub.bagOut hq3) ?_
        refine s_call [] (after_spec (some ms3[q].id) ms3[q].n ms3[q].l (nth f.fBlocks.xs i) (by omega) (by omega) (by omega)) (by show [Value.map (nth (idsOf ms3 pos3) i).b, _] = _; rw [hn3]; rfl) rfl (fun w1 f1 C => ⟨C.map ms3[q].id, C.rd (by infer_instance)⟩) ?_
        rintro v L' ⟨q', N', rfl, hN', rfl⟩
        have e3 : in7 f i q (kn pos3 ms3) = kn pos3 (ms3 ++ [⟨q', N', ms3[q].l ++ madeB (nth f.fBlocks.xs i)⟩]) := by simp [in7, kn, hq3]
        refine so_sub PSub.roll ?_
        refine so_sub (PSub.bagIn ms3[q] hq3) ?_
        rw [List.set_getElem_self]
        refine so_sub PSub.swap ?_
        refine so_sub (PSub.bagNew ⟨q', N', ms3[q].l ++ madeB (nth f.fBlocks.xs i)⟩) ?_
        (repeat' (first | refine s_move ?_ | refine s_assign ?_ | refine s_nil ?_ | (refine k_C ?_; first | refine s_seq ?_ | refine s_region ?_ | refine s_block ?_) | (refine k_E ?_; refine e_seq ?_) | (refine k_load ?_; refine s_ldB rfl rfl ?_) | (refine k_fld ?_; refine s_fldB rfl ?_) | (refine k_call ?_; refine s_len rfl ?_)))
        refine s_loop (σ := Nat × Bool × List (Option Nat) × List Mp7) (fun s => [(1, .pointer (some ⟨b1, 0, none⟩)), (3, .slice (some ⟨bi, 0, none⟩) f.fBlocks.xs.length f.fBlocks.xs.length), (4, .slice A f.fBlocks.xs.length c), (5, .bool s.2.1), (8, .map (some q')), (19, .slice f.fBlocks.A f.fBlocks.xs.length f.fBlocks.c), (20, .int .i64 f.fBlocks.xs.length), (21, .int .i64 i), (59, .slice (nth f.fBlocks.xs i).fEnd.fWays.A (nth f.fBlocks.xs i).fEnd.fWays.xs.length (nth f.fBlocks.xs i).fEnd.fWays.c), (60, .int .i64 (nth f.fBlocks.xs i).fEnd.fWays.xs.length), (61, .int .i64 s.1)])
          (fun s => [own 81 (some ⟨bi, 0, none⟩) f.fBlocks.xs.length f.fBlocks.xs.length (idsOf s.2.2.2 s.2.2.1), bag7 s.2.2.2, own 4 A f.fBlocks.xs.length c (reachB7 f), var 63 b1 f])
          (fun s => s.1 ≤ (nth f.fBlocks.xs i).fEnd.fWays.xs.length ∧ Ok7 f (kn s.2.2.1 s.2.2.2) ∧ At7 s.2.2.1 s.2.2.2 ∧ cnt7 pos3 ≤ cnt7 s.2.2.1 ∧ s.2.2.2.map (·.id) = ms3.map (·.id) ++ [q'] ∧ s.2.2.2.map (·.n) = ms3.map (·.n) ++ [N'] ∧ ways7 ms3.length ((nth f.fBlocks.xs i).fEnd.fWays.xs.take s.1) (true, in7 f i q (kn pos3 ms3)) = (s.2.1, kn s.2.2.1 s.2.2.2))
          (fun s => (nth f.fBlocks.xs i).fEnd.fWays.xs.length - s.1) (0, true, pos3, ms3 ++ [⟨q', N', ms3[q].l ++ madeB (nth f.fBlocks.xs i)⟩]) (by repeat (first | exact trivial | refine ⟨rfl, ?_⟩)) ⟨Nat.zero_le _, ?_, ?_, Nat.le_refl _, by simp, by simp, ?_⟩ (PSub.take [2, 0, 1, 1] ?_) ?_
        · rw [← e3]; exact (hok3.in7 (by omega) (by simpa [kn] using hq3)).1
        · exact hat3.more hv3
        · rw [List.take_zero, ← e3]; rfl
        · show [_, _, _, _] = [own _ _ _ _ (idsOf (ms3 ++ _) pos3), _, _, _]
          rw [idsOf_more hv3]
          try rfl
        rintro g4 ⟨j, tu4, pos4, ms4⟩ ⟨hj, hok4, hat4, hc4, hid4, hn4, hw4⟩
        dsimp only at hj hok4 hat4 hc4 hid4 hn4 hw4 ⊢
        have hpl4 : pos4.length = f.fBlocks.xs.length := hok4.1
        have hml4 : ms4.length = ms3.length + 1 := by have := congrArg List.length hid4; simpa using this
        (repeat' (first | refine s_move ?_ | refine s_nil ?_ | (refine k_C ?_; first | refine s_seq ?_ | refine s_region ?_ | refine s_skip ?_ | refine s_block ?_ | refine s_exit ?_ | (refine s_ifd rfl ?_ ?_ <;> intro hc <;> try (exfalso; omega))) | (refine k_E ?_; first | refine e_seq ?_ | refine e_seq_exit ?_ | refine e_bk_exit ?_ | refine e_bk ?_ | refine e_lp_exit ?_) | (refine k_load ?_; first | refine s_ldB rfl rfl ?_ | refine s_ldSA rfl rfl om rfl ?_) | (refine k_bin ?_; first | refine s_lss rfl rfl ?_ | refine s_add1 rfl rfl om ?_) | (refine k_fld ?_; refine s_fldB rfl ?_) | (refine k_idx ?_; refine s_idxS rfl rfl om ?_) | (refine k_store ?_; refine s_stW _ rfl rfl ?_) | (refine s_alloc ?_; intro b)))
        · have hwj := ends_to (he i (by omega)) (nth_mem (xs := (nth f.fBlocks.xs i).fEnd.fWays.xs) (i := j) (by omega))
          refine so_sub PSub.roll ?_
          refine s_meet' (k := (nth (nth f.fBlocks.xs i).fEnd.fWays.xs j).fTo.toNat) (q := ms3.length) hpl4 (by
            refine List.cons_eq_cons.2 ⟨rfl, List.cons_eq_cons.2 ⟨?_, List.cons_eq_cons.2 ⟨?_, rfl⟩⟩⟩
            · show Value.int .i64 (nth (nth f.fBlocks.xs i).fEnd.fWays.xs j).fTo = _
              rw [Int.toNat_of_nonneg (by omega)]
            · show Value.map (some q') = _
              rw [hid4]; simp) (by omega) (by omega) (by omega) (fun p hp => by simpa [kn] using hok4.2.1 p hp) ?_
          intro ms5 hi5 hn5 hl5
          have e5 : kn (meet7 (kn pos4 ms4) (nth (nth f.fBlocks.xs i).fEnd.fWays.xs j).fTo.toNat ms3.length).2.pos ms5 = (meet7 (kn pos4 ms4) (nth (nth f.fBlocks.xs i).fEnd.fWays.xs j).fTo.toNat ms3.length).2 := by unfold kn at hl5 ⊢; rw [hl5]
          obtain ⟨ha5, hc5⟩ := meet7_at (ms := ms4) (ms' := ms5) (ls := ms4.map (·.l)) (k := (nth (nth f.fBlocks.xs i).fEnd.fWays.xs j).fTo.toNat) (q := ms3.length) (by omega) hat4 hn5 (by rw [hn4]; simp; omega)
          have hok5 : Ok7 f (kn (meet7 (kn pos4 ms4) (nth (nth f.fBlocks.xs i).fEnd.fWays.xs j).fTo.toNat ms3.length).2.pos ms5) := by
            rw [e5]
            exact hok4.ways (s := (tu4, kn pos4 ms4)) (a := [nth (nth f.fBlocks.xs i).fEnd.fWays.xs j]) (q := ms3.length) (by simp [kn]; omega) (fun w hw => by rw [List.mem_singleton] at hw; subst hw; exact hwj)
          have hw5 : ways7 ms3.length ((nth f.fBlocks.xs i).fEnd.fWays.xs.take (j + 1)) (true, in7 f i q (kn pos3 ms3)) = ((meet7 (kn pos4 ms4) (nth (nth f.fBlocks.xs i).fEnd.fWays.xs j).fTo.toNat ms3.length).1 || tu4, kn (meet7 (kn pos4 ms4) (nth (nth f.fBlocks.xs i).fEnd.fWays.xs j).fTo.toNat ms3.length).2.pos ms5) := by
            rw [← take_nth (by omega), ways7_app, hw4, e5]; rfl
          (repeat' (first | refine s_move ?_ | refine s_assign ?_ | refine s_nil ?_ | (refine k_C ?_; refine s_region ?_) | (refine k_E ?_; first | refine e_seq ?_ | refine e_bk ?_) | (refine k_bin ?_; refine s_add1 rfl rfl om ?_) | (refine k_guard ?_; first | refine s_on rfl rfl ?_ | refine s_off rfl rfl rfl rfl ?_ | (refine s_cases rfl rfl ?_ ?_ <;> intro hc)) | refine s_pick rfl ?_))
          · refine e_lp (j + 1, true, _, ms5) (by repeat (first | exact trivial | refine ⟨rfl, ?_⟩)) ⟨by show j + 1 ≤ _; omega, hok5, ha5, Nat.le_trans hc4 hc5, hi5.trans hid4, hn5.trans hn4, ?_⟩ (by show _ - _ < _ - _; omega) (PSub.take [0, 0, 1, 1] rfl)
            rw [hw5, hc]; rfl
          · refine e_lp (j + 1, tu4, _, ms5) (by repeat (first | exact trivial | refine ⟨rfl, ?_⟩)) ⟨by show j + 1 ≤ _; omega, hok5, ha5, Nat.le_trans hc4 hc5, hi5.trans hid4, hn5.trans hn4, ?_⟩ (by show _ - _ < _ - _; omega) (PSub.take [0, 0, 1, 1] rfl)
            rw [hw5, hc]; rfl
        · have hj' : j = (nth f.fBlocks.xs i).fEnd.fWays.xs.length := by omega
          subst hj'
          rw [List.take_length] at hw4
          refine e_lp (i + 1, tu4, pos4, ms4) (by repeat (first | exact trivial | refine ⟨rfl, ?_⟩)) ⟨by show i + 1 ≤ _; omega, hok4, hat4, ?_⟩ (by show _ - _ < _ - _; omega) (PSub.take [0, 0, 0, 0] rfl)
          show blk7 f (reachB7 f) i (round7 f (reachB7 f) i _) = _
          rw [hrd, hb3, hw4]
      | some q =>
        (repeat' (first | refine s_nil ?_ | (refine k_C ?_; first | refine s_seq ?_ | refine s_skip ?_ | refine s_iff rfl ?_) | (refine k_E ?_; refine e_seq ?_)))
        have hq2 : q < ms2.length := by have := hok2.2.1 q (by rw [← hp]; exact List.getElem_mem hi2); simpa [kn] using this
        have hb2 : blk7 f (reachB7 f) i (tu2, kn pos2 ms2) = ways7 ms2.length (nth f.fBlocks.xs i).fEnd.fWays.xs (tu2, in7 f i q (kn pos2 ms2)) := by
          rw [blk7_old (q := q) hr (by show pos2[i]?.join = some q; rw [List.getElem?_eq_getElem hi2, hp]; rfl)]; simp [kn]
        have hpi2 := hp
        have hi3 : i < pos2.length := by have := hok2.1; simp only [kn] at this; omega
        have hn3 : nth (idsOf ms2 pos2) i = ⟨some ms2[q].id⟩ := by rw [idsOf_nth hi3, hpi2]; simp [hq2]
        have hs3 : ms2[q].n ≤ 2000 * cnt7 pos2 := by
          have := hat2 q (by rw [← hpi2]; exact List.getElem_mem hi3)
          simpa [hq2] using this
        have hc3 : cnt7 pos2 ≤ 1000 := Nat.le_trans cnt7_le (by have := hok2.1; simp only [kn] at this; omega)
        have hp1 := hf.p i
        have hp2 := hf.i i
        have hv2 : ∀ q, some q ∈ pos2 → q < ms2.length := fun r hr => by simpa [kn] using hok2.2.1 r hr
        refine s_tail (F := ?FB) 5 [0, 1, 2, 3, 4] foI (by kernel_rfl) ?hreadB ?hrestB
        case hreadB =>
          change sO _ _ _ _ _ _ (_ :: _ :: _ :: _ :: _ :: []) _ _ _
          (repeat' (first | refine s_move ?_ | refine s_nil ?_ | (refine k_load ?_; first | refine s_ldBW rfl rfl ?_ | refine s_ld rfl om rfl ?_) | (refine k_idx ?_; refine s_idx rfl rfl om ?_)))
          exact e_F
        change sO _ _ _ _ _ _ (_ :: _ :: []) _ _ _
        refine so_sub PSub.to3 ?_
        refine so_sub (PSub.bagOut hq2) ?_
        refine s_call [] (after_spec (some ms2[q].id) ms2[q].n ms2[q].l (nth f.fBlocks.xs i) (by omega) (by omega) (by omega)) (by show [Value.map (nth (idsOf ms2 pos2) i).b, _] = _; rw [hn3]; rfl) rfl (fun w1 f1 C => ⟨C.map ms2[q].id, C.rd (by infer_instance)⟩) ?_
        rintro v L' ⟨q', N', rfl, hN', rfl⟩
        have e2 : in7 f i q (kn pos2 ms2) = kn pos2 (ms2 ++ [⟨q', N', ms2[q].l ++ madeB (nth f.fBlocks.xs i)⟩]) := by simp [in7, kn, hq2]
        refine so_sub PSub.roll ?_
        refine so_sub (PSub.bagIn ms2[q] hq2) ?_
        rw [List.set_getElem_self]
        refine so_sub PSub.swap ?_
        refine so_sub (PSub.bagNew ⟨q', N', ms2[q].l ++ madeB (nth f.fBlocks.xs i)⟩) ?_
        (repeat' (first | refine s_move ?_ | refine s_assign ?_ | refine s_nil ?_ | (refine k_C ?_; first | refine s_seq ?_ | refine s_region ?_ | refine s_block ?_) | (refine k_E ?_; refine e_seq ?_) | (refine k_load ?_; refine s_ldB rfl rfl ?_) | (refine k_fld ?_; refine s_fldB rfl ?_) | (refine k_call ?_; refine s_len rfl ?_)))
        refine s_loop (σ := Nat × Bool × List (Option Nat) × List Mp7) (fun s => [(1, .pointer (some ⟨b1, 0, none⟩)), (3, .slice (some ⟨bi, 0, none⟩) f.fBlocks.xs.length f.fBlocks.xs.length), (4, .slice A f.fBlocks.xs.length c), (5, .bool s.2.1), (8, .map (some q')), (19, .slice f.fBlocks.A f.fBlocks.xs.length f.fBlocks.c), (20, .int .i64 f.fBlocks.xs.length), (21, .int .i64 i), (59, .slice (nth f.fBlocks.xs i).fEnd.fWays.A (nth f.fBlocks.xs i).fEnd.fWays.xs.length (nth f.fBlocks.xs i).fEnd.fWays.c), (60, .int .i64 (nth f.fBlocks.xs i).fEnd.fWays.xs.length), (61, .int .i64 s.1)])
          (fun s => [own 81 (some ⟨bi, 0, none⟩) f.fBlocks.xs.length f.fBlocks.xs.length (idsOf s.2.2.2 s.2.2.1), bag7 s.2.2.2, own 4 A f.fBlocks.xs.length c (reachB7 f), var 63 b1 f])
          (fun s => s.1 ≤ (nth f.fBlocks.xs i).fEnd.fWays.xs.length ∧ Ok7 f (kn s.2.2.1 s.2.2.2) ∧ At7 s.2.2.1 s.2.2.2 ∧ cnt7 pos2 ≤ cnt7 s.2.2.1 ∧ s.2.2.2.map (·.id) = ms2.map (·.id) ++ [q'] ∧ s.2.2.2.map (·.n) = ms2.map (·.n) ++ [N'] ∧ ways7 ms2.length ((nth f.fBlocks.xs i).fEnd.fWays.xs.take s.1) (tu2, in7 f i q (kn pos2 ms2)) = (s.2.1, kn s.2.2.1 s.2.2.2))
          (fun s => (nth f.fBlocks.xs i).fEnd.fWays.xs.length - s.1) (0, tu2, pos2, ms2 ++ [⟨q', N', ms2[q].l ++ madeB (nth f.fBlocks.xs i)⟩]) (by repeat (first | exact trivial | refine ⟨rfl, ?_⟩)) ⟨Nat.zero_le _, ?_, ?_, Nat.le_refl _, by simp, by simp, ?_⟩ (PSub.take [2, 0, 1, 1] ?_) ?_
        · rw [← e2]; exact (hok2.in7 (by omega) (by simpa [kn] using hq2)).1
        · exact hat2.more hv2
        · rw [List.take_zero, ← e2]; rfl
        · show [_, _, _, _] = [own _ _ _ _ (idsOf (ms2 ++ _) pos2), _, _, _]
          rw [idsOf_more hv2]
          try rfl
        rintro g4 ⟨j, tu4, pos4, ms4⟩ ⟨hj, hok4, hat4, hc4, hid4, hn4, hw4⟩
        dsimp only at hj hok4 hat4 hc4 hid4 hn4 hw4 ⊢
        have hpl4 : pos4.length = f.fBlocks.xs.length := hok4.1
        have hml4 : ms4.length = ms2.length + 1 := by have := congrArg List.length hid4; simpa using this
        (repeat' (first | refine s_move ?_ | refine s_nil ?_ | (refine k_C ?_; first | refine s_seq ?_ | refine s_region ?_ | refine s_skip ?_ | refine s_block ?_ | refine s_exit ?_ | (refine s_ifd rfl ?_ ?_ <;> intro hc <;> try (exfalso; omega))) | (refine k_E ?_; first | refine e_seq ?_ | refine e_seq_exit ?_ | refine e_bk_exit ?_ | refine e_bk ?_ | refine e_lp_exit ?_) | (refine k_load ?_; first | refine s_ldB rfl rfl ?_ | refine s_ldSA rfl rfl om rfl ?_) | (refine k_bin ?_; first | refine s_lss rfl rfl ?_ | refine s_add1 rfl rfl om ?_) | (refine k_fld ?_; refine s_fldB rfl ?_) | (refine k_idx ?_; refine s_idxS rfl rfl om ?_) | (refine k_store ?_; refine s_stW _ rfl rfl ?_) | (refine s_alloc ?_; intro b)))
        · have hwj := ends_to (he i (by omega)) (nth_mem (xs := (nth f.fBlocks.xs i).fEnd.fWays.xs) (i := j) (by omega))
          refine so_sub PSub.roll ?_
          refine s_meet' (k := (nth (nth f.fBlocks.xs i).fEnd.fWays.xs j).fTo.toNat) (q := ms2.length) hpl4 (by
            refine List.cons_eq_cons.2 ⟨rfl, List.cons_eq_cons.2 ⟨?_, List.cons_eq_cons.2 ⟨?_, rfl⟩⟩⟩
            · show Value.int .i64 (nth (nth f.fBlocks.xs i).fEnd.fWays.xs j).fTo = _
              rw [Int.toNat_of_nonneg (by omega)]
            · show Value.map (some q') = _
              rw [hid4]; simp) (by omega) (by omega) (by omega) (fun p hp => by simpa [kn] using hok4.2.1 p hp) ?_
          intro ms5 hi5 hn5 hl5
          have e5 : kn (meet7 (kn pos4 ms4) (nth (nth f.fBlocks.xs i).fEnd.fWays.xs j).fTo.toNat ms2.length).2.pos ms5 = (meet7 (kn pos4 ms4) (nth (nth f.fBlocks.xs i).fEnd.fWays.xs j).fTo.toNat ms2.length).2 := by unfold kn at hl5 ⊢; rw [hl5]
          obtain ⟨ha5, hc5⟩ := meet7_at (ms := ms4) (ms' := ms5) (ls := ms4.map (·.l)) (k := (nth (nth f.fBlocks.xs i).fEnd.fWays.xs j).fTo.toNat) (q := ms2.length) (by omega) hat4 hn5 (by rw [hn4]; simp; omega)
          have hok5 : Ok7 f (kn (meet7 (kn pos4 ms4) (nth (nth f.fBlocks.xs i).fEnd.fWays.xs j).fTo.toNat ms2.length).2.pos ms5) := by
            rw [e5]
            exact hok4.ways (s := (tu4, kn pos4 ms4)) (a := [nth (nth f.fBlocks.xs i).fEnd.fWays.xs j]) (q := ms2.length) (by simp [kn]; omega) (fun w hw => by rw [List.mem_singleton] at hw; subst hw; exact hwj)
          have hw5 : ways7 ms2.length ((nth f.fBlocks.xs i).fEnd.fWays.xs.take (j + 1)) (tu2, in7 f i q (kn pos2 ms2)) = ((meet7 (kn pos4 ms4) (nth (nth f.fBlocks.xs i).fEnd.fWays.xs j).fTo.toNat ms2.length).1 || tu4, kn (meet7 (kn pos4 ms4) (nth (nth f.fBlocks.xs i).fEnd.fWays.xs j).fTo.toNat ms2.length).2.pos ms5) := by
            rw [← take_nth (by omega), ways7_app, hw4, e5]; rfl
          (repeat' (first | refine s_move ?_ | refine s_assign ?_ | refine s_nil ?_ | (refine k_C ?_; refine s_region ?_) | (refine k_E ?_; first | refine e_seq ?_ | refine e_bk ?_) | (refine k_bin ?_; refine s_add1 rfl rfl om ?_) | (refine k_guard ?_; first | refine s_on rfl rfl ?_ | refine s_off rfl rfl rfl rfl ?_ | (refine s_cases rfl rfl ?_ ?_ <;> intro hc)) | refine s_pick rfl ?_))
          · refine e_lp (j + 1, true, _, ms5) (by repeat (first | exact trivial | refine ⟨rfl, ?_⟩)) ⟨by show j + 1 ≤ _; omega, hok5, ha5, Nat.le_trans hc4 hc5, hi5.trans hid4, hn5.trans hn4, ?_⟩ (by show _ - _ < _ - _; omega) (PSub.take [0, 0, 1, 1] rfl)
            rw [hw5, hc]; rfl
          · refine e_lp (j + 1, tu4, _, ms5) (by repeat (first | exact trivial | refine ⟨rfl, ?_⟩)) ⟨by show j + 1 ≤ _; omega, hok5, ha5, Nat.le_trans hc4 hc5, hi5.trans hid4, hn5.trans hn4, ?_⟩ (by show _ - _ < _ - _; omega) (PSub.take [0, 0, 1, 1] rfl)
            rw [hw5, hc]; rfl
        · have hj' : j = (nth f.fBlocks.xs i).fEnd.fWays.xs.length := by omega
          subst hj'
          rw [List.take_length] at hw4
          refine e_lp (i + 1, tu4, pos4, ms4) (by repeat (first | exact trivial | refine ⟨rfl, ?_⟩)) ⟨by show i + 1 ≤ _; omega, hok4, hat4, ?_⟩ (by show _ - _ < _ - _; omega) (PSub.take [0, 0, 0, 0] rfl)
          show blk7 f (reachB7 f) i (round7 f (reachB7 f) i _) = _
          rw [hrd, hb2, hw4]
    · have hi' : i = f.fBlocks.xs.length := by omega
      subst hi'
      obtain ⟨r1, r2, r3⟩ := round7_left (f := f) (r := reachB7 f) (s := (false, kn pos ms)) he (Nat.le_refl _) hok
      rw [hrd] at r1 r2 r3
      dsimp only at r1 r2 r3
      obtain ⟨k, rfl⟩ : ∃ q, k = q + 1 := ⟨k - 1, by omega⟩
      rw [fix7, hrd] at hfx
      dsimp only at hfx
      cases tu2 with
      | true =>
        have r4 := (r3 rfl).resolve_left (by simp)
        refine e_lp (true, pos2, ms2) (by repeat (first | exact trivial | refine ⟨rfl, ?_⟩)) ⟨hok2, hat2, ?_⟩ (by show 2 * left7 (madeAll f.fBlocks.xs) (kn pos2 ms2) + 1 < 2 * left7 (madeAll f.fBlocks.xs) (kn pos ms) + 1; omega) PSub.refl
        rw [if_pos rfl]
        exact ⟨k, by show left7 (madeAll f.fBlocks.xs) (kn pos2 ms2) < k; omega, by simpa using hfx⟩
      | false =>
        refine e_lp (false, pos2, ms2) (by repeat (first | exact trivial | refine ⟨rfl, ?_⟩)) ⟨hok2, hat2, ?_⟩ (by show 2 * left7 (madeAll f.fBlocks.xs) (kn pos2 ms2) + 0 < 2 * left7 (madeAll f.fBlocks.xs) (kn pos ms) + 1; omega) PSub.refl
        rw [if_neg (by simp)]
        simpa using hfx
  · rw [if_neg (by simp [hc])] at hfx
    refine e_done rfl rfl _ (PSub.take [0, 0] rfl) ?_
    rw [← hfx]
    exact ⟨_, _, ms, rfl, rfl, hok.1, fun q hq => by simpa [kn] using hok.2.1 q hq, fun q hq => by have := hat q hq; have : cnt7 pos ≤ pos.length := cnt7_le; have h3 : pos.length = f.fBlocks.xs.length := hok.1; omega, rfl⟩

def arrB (a : SsaArray) : Bool := decide (0 ≤ a.fSize ∧ a.fSize ≤ 4096 ∧ 0 ≤ a.fHold ∧ a.fHold ≤ 2)
def mainB (p : SsaProg) : Bool := decide (0 ≤ p.fMain ∧ p.fMain < p.fFuncs.xs.length ∧ (nth (nth p.fFuncs.xs p.fMain.toNat).fBlocks.xs 0).fParams.xs.length = 0)
def blkB (p : SsaProg) (f : SsaFunc) (b : SsaBlock) : Bool := endsB f b.fEnd && b.fIns.xs.all (rightB p)
def usedAt (f : SsaFunc) (s : Kn7) (n : Nat) : Bool := match s.pos[n]?.join with
  | none => true
  | some q => usedB (s.ls.getD q []) (nth f.fBlocks.xs n)
def fnB (p : SsaProg) (f : SsaFunc) : Bool := decide (0 < f.fBlocks.xs.length) && decide ((nth f.fBlocks.xs 0).fParams.xs.length ≤ 6) && onceB f && f.fBlocks.xs.all (blkB p f) && (List.range f.fBlocks.xs.length).all (usedAt f (known7 f))
def checkB (p : SsaProg) : Bool := p.fArrays.xs.all arrB && mainB p && p.fFuncs.xs.all (fnB p)
structure FewP (p : SsaProg) : Prop where
  a : p.fArrays.xs.length ≤ 100000
  n : p.fFuncs.xs.length ≤ 100000
  f : ∀ i, FewF (nth p.fFuncs.xs i)
theorem lasts_rdD {α : Type} [I : Enc α] [D : Dp α] (x : α) : Lasts (fun ok w => RdD ok w x) := fun _ _ _ _ h hk => h.loc hk

section
variable {P : Program} {n : Nat} {w0 : World} {f0 : FP} {ops : Array Oper} {m : Bool} {rest : List Oper} {QC : Exit → Fr → World → Prop} {f : Fr} {L : List HP} {x y : Operand}
variable {d : Tmp} {ty t yt kt e : TypeId} {pos : String} {after : Array Edge}
theorem s_mnn [h : MpT P t kt e] {p : Option Nat} (hx : ev f x = .map p) (hy : ev f y = .map none) (hn : sO P n w0 f0 ops m rest QC (up f d (.bool (!p.isNone))) L) (hd : Nat.blt d n = true := by rfl) :
    sO P n w0 f0 ops m (⟨some d, .binOp .neq t x y yt, ty, pos, after, none⟩ :: rest) QC f L := by
  intro w H
  refine o_pure (v := .bool (!p.isNone)) rfl hd ?_ (hn w H)
  show (Sem.run P (do pure (Next.value (← (do eqGuard .neq t x y (ev f x) (ev f y); binOp .neq t (ev f x) (ev f y))))) w) = _
  rw [hx, hy]
  have he : (Op.equal t (.map p) (.map none)).run P w = .ok p.isNone w := run_mnil' 9999 h.u
  simp [eqGuard, binOp, he, Result.andThen]
end
set_option maxHeartbeats 4000000 in
theorem check_spec (p : SsaProg) (hp : FewP p) : Spec Try.prog 11 [.agg (Enc.enc p).toArray] [] (fun ok w => RdD ok w p) fun r L' => r = .int .i64 (if checkB p = true then 0 else 40) ∧ L' = [] := by
  refine spec_of Try.func11 rfl rfl fun w0 f0 hR => ?_
  have ha := hp.a
  have hn := hp.n
  (repeat' (first | refine s_move ?_ | refine s_assign ?_ | refine s_nil ?_ | (refine k_C ?_; first | refine s_seq ?_ | refine s_region ?_ | refine s_block ?_) | (refine k_E ?_; refine e_seq ?_) | (refine k_load ?_; refine s_ldB rfl rfl ?_) | (refine k_fld ?_; refine s_fldB rfl ?_) | (refine k_call ?_; refine s_len rfl ?_) | (refine s_box _ rfl ?_; intro b)))
  obtain ⟨b1, rfl⟩ : ∃ q, q = b := ⟨_, rfl⟩
  refine s_loop (σ := Nat) (fun i => [(1, .pointer (some ⟨b1, 0, none⟩)), (12, .slice p.fArrays.A p.fArrays.xs.length p.fArrays.c), (13, .int .i64 p.fArrays.xs.length), (14, .int .i64 i)]) (fun _ => [var 25 b1 p]) (fun i => i ≤ p.fArrays.xs.length ∧ (p.fArrays.xs.take i).all arrB = true) (fun i => p.fArrays.xs.length - i) 0 (by repeat (first | exact trivial | refine ⟨rfl, ?_⟩)) ⟨Nat.zero_le _, rfl⟩ PSub.refl ?_
  rintro g i ⟨hi, hall⟩
  have no : i < p.fArrays.xs.length → arrB (nth p.fArrays.xs i) = false → checkB p = false := fun h1 h2 => by
    unfold checkB
    have : p.fArrays.xs.all arrB = false := List.all_eq_false.2 ⟨_, nth_mem h1, by simp [h2]⟩
    simp [this]
  have bad : checkB p = false → Value.int .i64 40 = Value.int .i64 (if checkB p = true then 0 else 40) := fun h => by rw [h]; rfl
  have noM : mainB p = false → checkB p = false := fun h => by unfold checkB; simp [h]
  (repeat' (first | refine s_move ?_ | refine s_assign ?_ | refine s_nil ?_ | (refine k_C ?_; first | refine s_seq ?_ | refine s_region ?_ | refine s_skip ?_ | refine s_block ?_ | refine s_exit ?_ | refine s_ret ?_ | refine s_ift rfl ?_ | (refine s_ifd rfl ?_ ?_ <;> intro hc <;> try (exfalso; omega))) | (refine k_E ?_; first | refine e_seq ?_ | refine e_seq_ret ?_ | refine e_seq_exit ?_ | refine e_bk_exit ?_ | refine e_bk_ret ?_ | refine e_bk ?_ | refine e_lp_ret ?_ | refine e_lp_exit ?_) | (refine k_load ?_; first | refine s_ldB rfl rfl ?_ | refine s_ldSA rfl rfl om rfl ?_) | (refine k_bin ?_; first | refine s_lss rfl rfl ?_ | refine s_add1 rfl rfl om ?_ | refine s_gtr rfl rfl ?_ | refine s_geq rfl rfl ?_) | (refine k_fld ?_; refine s_fldB rfl ?_) | (refine k_idx ?_; first | refine s_idxS rfl rfl om ?_ | refine s_idxSI rfl rfl om om ?_) | (refine k_store ?_; refine s_stW _ rfl rfl ?_) | (refine k_call ?_; refine s_len rfl ?_) | (refine k_guard ?_; first | refine s_on rfl rfl ?_ | refine s_off rfl rfl rfl rfl ?_ | (refine s_casesd rfl rfl ?_ ?_ <;> intro hc <;> try (exfalso; omega))) | (refine s_alloc ?_; intro b) | refine s_pick rfl ?_))
  iterate 4
    · refine e_done rfl rfl _ (PSub.take [] rfl) ⟨bad (no (by omega) ?_), rfl⟩
      unfold arrB
      exact decide_eq_false (by omega)
  · refine e_lp (i + 1) (by repeat (first | exact trivial | refine ⟨rfl, ?_⟩)) ⟨by omega, ?_⟩ (by show _ - _ < _ - _; omega) (PSub.take [1] rfl)
    rw [← take_nth (by omega), List.all_append, hall]
    simp only [List.all_cons, List.all_nil, Bool.and_true, Bool.true_and]
    exact decide_eq_true (by omega)
  iterate 2
    · refine e_done rfl rfl _ (PSub.take [] rfl) ⟨bad (noM ?_), rfl⟩
      unfold mainB
      exact decide_eq_false (by omega)
  have hi' : i = p.fArrays.xs.length := by omega
  subst hi'
  rw [List.take_length] at hall
  refine s_call0 (params_spec (nth p.fFuncs.xs p.fMain.toNat)) rfl (fun w1 H => H.rdD (by infer_instance)) ?_
  rintro v L' ⟨rfl, rfl⟩
  (repeat' (first | refine s_move ?_ | refine s_assign ?_ | refine s_nil ?_ | (refine k_C ?_; first | refine s_seq ?_ | refine s_region ?_ | refine s_skip ?_ | refine s_block ?_ | refine s_ret ?_ | (refine s_ifd rfl ?_ ?_ <;> intro hc <;> try (exfalso; omega))) | (refine k_E ?_; first | refine e_seq ?_ | refine e_seq_ret ?_) | (refine k_load ?_; refine s_ldB rfl rfl ?_) | (refine k_bin ?_; refine s_gtr rfl rfl ?_) | (refine k_fld ?_; refine s_fldB rfl ?_) | (refine k_call ?_; refine s_len rfl ?_) | (refine k_guard ?_; refine s_on rfl rfl ?_) | refine s_pick rfl ?_))
  · refine e_done rfl rfl _ (PSub.take [] rfl) ⟨bad (noM ?_), rfl⟩
    unfold mainB
    exact decide_eq_false (by omega)
  have hmain : mainB p = true := by
    unfold mainB
    exact decide_eq_true (by omega)
  refine s_loop (σ := Nat) (fun i => [(1, .pointer (some ⟨b1, 0, none⟩)), (60, .slice p.fFuncs.A p.fFuncs.xs.length p.fFuncs.c), (61, .int .i64 p.fFuncs.xs.length), (62, .int .i64 i)]) (fun _ => [var 25 b1 p]) (fun i => i ≤ p.fFuncs.xs.length ∧ (p.fFuncs.xs.take i).all (fnB p) = true) (fun i => p.fFuncs.xs.length - i) 0 (by repeat (first | exact trivial | refine ⟨rfl, ?_⟩)) ⟨Nat.zero_le _, rfl⟩ (PSub.take [0] rfl) ?_
  rintro g2 i ⟨hi, hallF⟩
  have no : i < p.fFuncs.xs.length → fnB p (nth p.fFuncs.xs i) = false → checkB p = false := fun h1 h2 => by
    unfold checkB
    have : p.fFuncs.xs.all (fnB p) = false := List.all_eq_false.2 ⟨_, nth_mem h1, by simp [h2]⟩
    simp [this]
  have hF := hp.f i
  have hFb := hF.b
  (repeat' (first | refine s_move ?_ | refine s_assign ?_ | refine s_nil ?_ | (refine k_C ?_; first | refine s_seq ?_ | refine s_region ?_ | refine s_skip ?_ | refine s_block ?_ | refine s_exit ?_ | refine s_ret ?_ | refine s_ift rfl ?_ | (refine s_ifd rfl ?_ ?_ <;> intro hc <;> try (exfalso; omega))) | (refine k_E ?_; first | refine e_seq ?_ | refine e_seq_ret ?_ | refine e_seq_exit ?_ | refine e_bk_exit ?_ | refine e_bk_ret ?_ | refine e_lp_ret ?_ | refine e_lp_exit ?_) | (refine k_load ?_; first | refine s_ldB rfl rfl ?_ | refine s_ldBW rfl rfl ?_ | refine s_ldSA rfl rfl om rfl ?_) | (refine k_bin ?_; first | refine s_lss rfl rfl ?_ | refine s_eql rfl rfl ?_) | (refine k_fld ?_; refine s_fldB rfl ?_) | (refine k_idx ?_; refine s_idxS rfl rfl om ?_) | (refine k_store ?_; refine s_stW _ rfl rfl ?_) | (refine k_call ?_; refine s_len rfl ?_) | (refine k_guard ?_; first | refine s_on rfl rfl ?_ | refine s_off rfl rfl rfl rfl ?_ | (refine s_casesd rfl rfl ?_ ?_ <;> intro hc <;> try (exfalso; omega))) | (refine s_alloc ?_; intro b) | refine s_pick rfl ?_))
  · refine e_done rfl rfl _ (PSub.take [] rfl) ⟨bad (no (by omega) ?_), rfl⟩
    unfold fnB
    have : ¬ 0 < (nth p.fFuncs.xs i).fBlocks.xs.length := by omega
    simp [this]
  refine s_call0 (params_spec (nth p.fFuncs.xs i)) rfl (fun w1 H => H.rdD (by infer_instance)) ?_
  rintro v L' ⟨rfl, rfl⟩
  (repeat' (first | refine s_move ?_ | refine s_assign ?_ | refine s_nil ?_ | (refine k_C ?_; first | refine s_seq ?_ | refine s_region ?_ | refine s_ret ?_ | refine s_ift rfl ?_) | (refine k_E ?_; first | refine e_seq ?_ | refine e_seq_ret ?_ | refine e_bk_ret ?_ | refine e_lp_ret ?_) | (refine k_load ?_; refine s_ldBW rfl rfl ?_) | (refine k_bin ?_; refine s_gtr rfl rfl ?_) | (refine k_call ?_; refine s_len rfl ?_) | (refine k_guard ?_; first | refine s_on rfl rfl ?_ | refine s_off rfl rfl rfl rfl ?_ | (refine s_casesd rfl rfl ?_ ?_ <;> intro hc <;> try (exfalso; omega))) | refine s_pick rfl ?_))
  · refine e_done rfl rfl _ (PSub.take [] rfl) ⟨bad (no (by omega) ?_), rfl⟩
    unfold fnB
    have : ¬ (nth (nth p.fFuncs.xs i).fBlocks.xs 0).fParams.xs.length ≤ 6 := by omega
    simp [this]
  refine s_call0 (once_spec (nth p.fFuncs.xs i) hF) rfl (fun w1 H => H.rdD (by infer_instance)) ?_
  rintro v L' ⟨rfl, rfl⟩
  (repeat' (first | refine s_move ?_ | refine s_assign ?_ | refine s_nil ?_ | (refine k_C ?_; first | refine s_seq ?_ | refine s_region ?_ | refine s_skip ?_ | refine s_block ?_ | refine s_ret ?_ | (refine s_if rfl ?_ ?_ <;> intro hc)) | (refine k_E ?_; first | refine e_seq ?_ | refine e_seq_ret ?_ | refine e_bk_ret ?_ | refine e_lp_ret ?_) | (refine k_load ?_; refine s_ldB rfl rfl ?_) | (refine k_fld ?_; refine s_fldB rfl ?_) | (refine k_call ?_; refine s_len rfl ?_) | (refine k_guard ?_; refine s_on rfl rfl ?_) | refine s_not rfl ?_ | refine s_pick rfl ?_))
  · refine e_done rfl rfl _ (PSub.take [] rfl) ⟨bad (no (by omega) ?_), rfl⟩
    unfold fnB
    have : onceB (nth p.fFuncs.xs i) = false := by simpa using hc
    simp [this]
  · have h0 : onceB (nth p.fFuncs.xs i) = true := by simpa using hc
    obtain ⟨bf, rfl⟩ : ∃ q, q = b := ⟨_, rfl⟩
    refine s_loop (σ := Nat) (fun k => [(1, .pointer (some ⟨b1, 0, none⟩)), (60, .slice p.fFuncs.A p.fFuncs.xs.length p.fFuncs.c), (61, .int .i64 p.fFuncs.xs.length), (62, .int .i64 i), (6, .pointer (some ⟨bf, 0, none⟩)), (82, .slice (nth p.fFuncs.xs i).fBlocks.A (nth p.fFuncs.xs i).fBlocks.xs.length (nth p.fFuncs.xs i).fBlocks.c), (83, .int .i64 (nth p.fFuncs.xs i).fBlocks.xs.length), (84, .int .i64 k)])
      (fun _ => [var 63 bf (nth p.fFuncs.xs i), var 25 b1 p]) (fun k => k ≤ (nth p.fFuncs.xs i).fBlocks.xs.length ∧ ((nth p.fFuncs.xs i).fBlocks.xs.take k).all (blkB p (nth p.fFuncs.xs i)) = true) (fun k => (nth p.fFuncs.xs i).fBlocks.xs.length - k) 0 (by repeat (first | exact trivial | refine ⟨rfl, ?_⟩)) ⟨Nat.zero_le _, rfl⟩ PSub.refl ?_
    rintro g3 k ⟨hk, hallB⟩
    have noB : k < (nth p.fFuncs.xs i).fBlocks.xs.length → blkB p (nth p.fFuncs.xs i) (nth (nth p.fFuncs.xs i).fBlocks.xs k) = false → fnB p (nth p.fFuncs.xs i) = false := fun h1 h2 => by
      unfold fnB
      have : (nth p.fFuncs.xs i).fBlocks.xs.all (blkB p (nth p.fFuncs.xs i)) = false := List.all_eq_false.2 ⟨_, nth_mem h1, by simp [h2]⟩
      simp [this]
    (repeat' (first | refine s_nil ?_ | (refine k_C ?_; first | refine s_seq ?_ | refine s_region ?_ | refine s_skip ?_ | refine s_block ?_ | refine s_exit ?_ | (refine s_ifd rfl ?_ ?_ <;> intro hc <;> try (exfalso; omega))) | (refine k_E ?_; first | refine e_seq ?_ | refine e_seq_exit ?_ | refine e_bk_exit ?_ | refine e_lp_exit ?_) | (refine k_load ?_; first | refine s_ldBW rfl rfl ?_ | refine s_ldBA rfl (by decide) ?_ | refine s_ldSA rfl rfl om rfl ?_) | (refine k_bin ?_; refine s_lss rfl rfl ?_) | (refine k_fld ?_; refine s_fldB rfl ?_) | (refine k_idx ?_; refine s_idxS rfl rfl om ?_) | (refine k_store ?_; refine s_stW _ rfl rfl ?_) | (refine s_alloc ?_; intro b)))
    · refine s_call0 (ends_spec (nth p.fFuncs.xs i) (nth (nth p.fFuncs.xs i).fBlocks.xs k).fEnd (hF.w k)) rfl (fun w1 H => ⟨H.rdD (by infer_instance), H.rdD (by infer_instance)⟩) ?_
      rintro v L' ⟨rfl, rfl⟩
      (repeat' (first | refine s_move ?_ | refine s_assign ?_ | refine s_nil ?_ | (refine k_C ?_; first | refine s_seq ?_ | refine s_region ?_ | refine s_ret ?_ | refine s_ift rfl ?_) | (refine k_E ?_; first | refine e_seq ?_ | refine e_seq_ret ?_ | refine e_bk_ret ?_ | refine e_lp_ret ?_) | (refine k_load ?_; refine s_ldB rfl rfl ?_) | (refine k_fld ?_; refine s_fldB rfl ?_) | (refine k_guard ?_; first | refine s_on rfl rfl ?_ | refine s_off rfl rfl rfl rfl ?_ | (refine s_cases rfl rfl ?_ ?_ <;> intro hc)) | refine s_func (v1 := []) (v2 := [.pointer _]) rfl rfl ?_ | refine s_not rfl ?_ | refine s_pick rfl ?_))
      · refine e_done rfl rfl _ (PSub.take [] rfl) ⟨bad (no (by omega) (noB (by omega) ?_)), rfl⟩
        unfold blkB
        have : endsB (nth p.fFuncs.xs i) (nth (nth p.fFuncs.xs i).fBlocks.xs k).fEnd = false := by simpa using hc
        simp [this]
      have he : endsB (nth p.fFuncs.xs i) (nth (nth p.fFuncs.xs i).fBlocks.xs k).fEnd = true := by simpa using hc
      refine s_call [] (has_Ins_spec _ [.pointer (some ⟨b1, 0, none⟩)] (nth (nth p.fFuncs.xs i).fBlocks.xs k).fIns (fun x => !rightB p x) (fun ok w => RdB ok w b1 p ∧ RdD ok w p) ((Lasts.b b1 p).and (lasts_rdD p)) (fun x _ => check1_spec p x b1)) rfl rfl (fun w1 f1 C => ⟨⟨C.var b1, C.rd hR⟩, C.rd (by infer_instance)⟩) ?_
      rintro v L' ⟨rfl, rfl⟩
      (repeat' (first | refine s_move ?_ | refine s_assign ?_ | refine s_nil ?_ | (refine k_C ?_; first | refine s_seq ?_ | refine s_region ?_ | refine s_skip ?_ | refine s_ret ?_ | (refine s_if rfl ?_ ?_ <;> intro hc)) | (refine k_E ?_; first | refine e_seq ?_ | refine e_seq_ret ?_ | refine e_bk_ret ?_ | refine e_bk ?_ | refine e_lp_ret ?_) | (refine k_bin ?_; refine s_add1 rfl rfl om ?_) | refine s_pick rfl ?_))
      · refine e_done rfl rfl _ (PSub.take [] rfl) ⟨bad (no (by omega) (noB (by omega) ?_)), rfl⟩
        unfold blkB
        have : (nth (nth p.fFuncs.xs i).fBlocks.xs k).fIns.xs.all (rightB p) = false := by rw [List.all_eq_not_any_not, hc]; rfl
        simp [this]
      · refine e_lp (k + 1) (by repeat (first | exact trivial | refine ⟨rfl, ?_⟩)) ⟨by omega, ?_⟩ (by show _ - _ < _ - _; omega) (PSub.take [1, 1] rfl)
        have : (nth (nth p.fFuncs.xs i).fBlocks.xs k).fIns.xs.all (rightB p) = true := by rw [List.all_eq_not_any_not, hc]; rfl
        rw [← take_nth (by omega), List.all_append, hallB]
        simp [blkB, he, this]
    have hk' : k = (nth p.fFuncs.xs i).fBlocks.xs.length := by omega
    subst hk'
    rw [List.take_length] at hallB
    refine s_call0 (known7_spec (nth p.fFuncs.xs i) hF (fun n hn => ?_)) rfl (fun w1 H => H.rdD (by infer_instance)) ?_
    · have := List.all_eq_true.1 hallB _ (nth_mem hn)
      unfold blkB at this
      simp only [Bool.and_eq_true] at this
      exact this.1
    rintro v L' ⟨A, c, ms, rfl, hls, hpl, hix, hmn, rfl⟩
    generalize hkn : known7 (nth p.fFuncs.xs i) = K at hls hpl hix hmn ⊢
    (repeat' (first | refine s_move ?_ | refine s_nil ?_ | (refine k_C ?_; refine s_block ?_) | (refine k_E ?_; refine e_seq ?_) | (refine k_call ?_; refine s_len rfl ?_)))
    refine s_loop (σ := Nat) (fun k => [(1, .pointer (some ⟨b1, 0, none⟩)), (60, .slice p.fFuncs.A p.fFuncs.xs.length p.fFuncs.c), (61, .int .i64 p.fFuncs.xs.length), (62, .int .i64 i), (6, .pointer (some ⟨bf, 0, none⟩)), (101, .slice A (nth p.fFuncs.xs i).fBlocks.xs.length c), (102, .int .i64 (nth p.fFuncs.xs i).fBlocks.xs.length), (103, .int .i64 k)])
      (fun _ => [own 81 A (nth p.fFuncs.xs i).fBlocks.xs.length c (idsOf ms K.pos), bag7 ms, var 63 bf (nth p.fFuncs.xs i), var 25 b1 p]) (fun k => k ≤ (nth p.fFuncs.xs i).fBlocks.xs.length ∧ ∀ n, n < k → usedAt (nth p.fFuncs.xs i) K n = true) (fun k => (nth p.fFuncs.xs i).fBlocks.xs.length - k) 0 (by repeat (first | exact trivial | refine ⟨rfl, ?_⟩)) ⟨Nat.zero_le _, fun n hn => absurd hn (Nat.not_lt_zero n)⟩ PSub.refl ?_
    rintro g4 k ⟨hk, hallU⟩
    have noU : k < (nth p.fFuncs.xs i).fBlocks.xs.length → usedAt (nth p.fFuncs.xs i) K k = false → fnB p (nth p.fFuncs.xs i) = false := fun h1 h2 => by
      unfold fnB
      rw [hkn]
      have : (List.range (nth p.fFuncs.xs i).fBlocks.xs.length).all (usedAt (nth p.fFuncs.xs i) K) = false := List.all_eq_false.2 ⟨k, List.mem_range.2 h1, by simp [h2]⟩
      simp [this]
    have hid : k < (nth p.fFuncs.xs i).fBlocks.xs.length → ∃ h : k < K.pos.length, nth (idsOf ms K.pos) k = ⟨K.pos[k].map fun q => (ms.map (·.id)).getD q 0⟩ := fun h => ⟨by omega, idsOf_nth (ms := ms) (show k < K.pos.length by omega)⟩
    (repeat' (first | refine s_move ?_ | refine s_assign ?_ | refine s_nil ?_ | (refine k_C ?_; first | refine s_seq ?_ | refine s_region ?_ | refine s_skip ?_ | refine s_block ?_ | refine s_exit ?_ | (refine s_ifd rfl ?_ ?_ <;> intro hc <;> try (exfalso; omega))) | (refine k_E ?_; first | refine e_seq ?_ | refine e_seq_exit ?_ | refine e_bk_exit ?_ | refine e_bk ?_ | refine e_lp_exit ?_) | (refine k_load ?_; refine s_ld rfl om rfl ?_) | (refine k_bin ?_; first | refine s_lss rfl rfl ?_ | refine s_add1 rfl rfl om ?_) | (refine k_idx ?_; refine s_idx rfl rfl om ?_)))
    · obtain ⟨hk2, hid⟩ := hid (by omega)
      refine s_mnn rfl rfl ?_
      rw [hid]
      cases hq : K.pos[k] with
      | none =>
        (repeat' (first | refine s_move ?_ | refine s_nil ?_ | (refine k_C ?_; first | refine s_region ?_ | refine s_skip ?_ | refine s_iff rfl ?_) | (refine k_E ?_; first | refine e_seq ?_ | refine e_bk ?_) | (refine k_bin ?_; refine s_add1 rfl rfl om ?_) | (refine k_guard ?_; refine s_off rfl rfl rfl rfl ?_) | refine s_pick rfl ?_))
        refine e_lp (k + 1) (by repeat (first | exact trivial | refine ⟨rfl, ?_⟩)) ⟨by omega, fun n hn => ?_⟩ (by show _ - _ < _ - _; omega) PSub.refl
        rcases Nat.lt_succ_iff_lt_or_eq.1 hn with h | rfl
        · exact hallU n h
        · unfold usedAt
          rw [List.getElem?_eq_getElem hk2, hq]; rfl
      | some q =>
        have hql := hix q (by rw [← hq]; exact List.getElem_mem hk2)
        have hqn := hmn q (by rw [← hq]; exact List.getElem_mem hk2)
        have hqn : ms[q].n ≤ 10000000 := by simpa [hql] using hqn
        have hlq : K.ls.getD q [] = ms[q].l := by rw [← hls]; simp [hql]
        have hu : usedAt (nth p.fFuncs.xs i) K k = usedB ms[q].l (nth (nth p.fFuncs.xs i).fBlocks.xs k) := by
          unfold usedAt
          rw [List.getElem?_eq_getElem hk2, hq, ← hlq]; rfl
        have hp1 := hF.p k
        have hp2 := hF.i k
        have hp3 := hF.w k
        (repeat' (first | refine s_move ?_ | (refine k_load ?_; first | refine s_ldB rfl rfl ?_ | refine s_ldSA rfl rfl om rfl ?_) | (refine k_fld ?_; refine s_fldB rfl ?_) | (refine k_idx ?_; refine s_idxS rfl rfl om ?_) | (refine k_guard ?_; refine s_on rfl rfl ?_)))
        refine so_sub PSub.swap (so_sub (PSub.bagOut hql) ?_)
        refine s_call [] (used_spec (some ms[q].id) ms[q].n ms[q].l (nth (nth p.fFuncs.xs i).fBlocks.xs k) (by omega) (by omega) (by omega) (by omega)) (by
          refine List.cons_eq_cons.2 ⟨?_, rfl⟩
          show Value.map (some ((ms.map (·.id)).getD q 0)) = _
          simp [hql]) rfl (fun w1 f1 C => ⟨C.map ms[q].id, C.rd (by infer_instance)⟩) ?_
        rintro v L' ⟨rfl, rfl⟩
        refine so_sub (PSub.bagIn ms[q] hql) ?_
        rw [List.set_getElem_self]
        refine so_sub PSub.swap ?_
        (repeat' (first | refine s_move ?_ | refine s_assign ?_ | refine s_nil ?_ | (refine k_C ?_; first | refine s_seq ?_ | refine s_region ?_ | refine s_skip ?_ | refine s_ret ?_ | (refine s_if rfl ?_ ?_ <;> intro hc)) | (refine k_E ?_; first | refine e_seq ?_ | refine e_seq_ret ?_ | refine e_bk_ret ?_ | refine e_bk ?_ | refine e_lp_ret ?_) | (refine k_bin ?_; refine s_add1 rfl rfl om ?_) | (refine k_guard ?_; refine s_on rfl rfl ?_) | refine s_not rfl ?_ | refine s_pick rfl ?_))
        · refine e_done rfl rfl _ (PSub.take [] rfl) ⟨bad (no (by omega) (noU (by omega) ?_)), rfl⟩
          rw [hu]; simpa using hc
        · refine e_lp (k + 1) (by repeat (first | exact trivial | refine ⟨rfl, ?_⟩)) ⟨by omega, fun n hn => ?_⟩ (by show _ - _ < _ - _; omega) PSub.refl
          rcases Nat.lt_succ_iff_lt_or_eq.1 hn with h | rfl
          · exact hallU n h
          · rw [hu]; simpa using hc
    · have hk' : k = (nth p.fFuncs.xs i).fBlocks.xs.length := by omega
      subst hk'
      refine e_lp (i + 1) (by repeat (first | exact trivial | refine ⟨rfl, ?_⟩)) ⟨by omega, ?_⟩ (by show _ - _ < _ - _; omega) (PSub.take [3] rfl)
      rw [← take_nth (by omega), List.all_append, hallF]
      have h1 : 0 < (nth p.fFuncs.xs i).fBlocks.xs.length := by omega
      have h2 : (nth (nth p.fFuncs.xs i).fBlocks.xs 0).fParams.xs.length ≤ 6 := by omega
      have h3 : (List.range (nth p.fFuncs.xs i).fBlocks.xs.length).all (usedAt (nth p.fFuncs.xs i) K) = true := List.all_eq_true.2 fun n hn => hallU n (List.mem_range.1 hn)
      simp [fnB, h1, h2, h0, hallB, hkn, h3]
  · have hi' : i = p.fFuncs.xs.length := by omega
    subst hi'
    rw [List.take_length] at hallF
    refine e_done rfl rfl _ (PSub.take [] rfl) ⟨?_, rfl⟩
    have : checkB p = true := by unfold checkB; simp [hall, hmain, hallF]
    rw [this]; rfl
end Go.Proofs.Ytoknjpmlloikhaa
