/- Layer 7: meet. -/
import Derived.Test.YtfplmdjlgjgbgaaS3
import Derived.Test.YtfplmdjlgjgbgaaA10
namespace Go.Proofs.Ytfplmdjlgjgbgaa
set_option linter.unusedVariables false
set_option linter.unusedSimpArgs false
open Go Go.RowKit

theorem run_mnil' {P : Program} {w : World} (fuel : Nat) {t kt e : TypeId} {p : Option Nat} (ht : P.underlying t = some (.map kt e)) : (Op.equalIn (fuel + 1) t (.map p) (.map none)).run P w = .ok p.isNone w := by
  cases p <;> simp [Op.equalIn, run_underlying ht]
section
variable {P : Program} {n : Nat} {w0 : World} {f0 : FP} {ops : Array Oper} {m : Bool} {rest : List Oper} {QC : Exit → Fr → World → Prop} {f : Fr} {L : List HP} {x y : Operand}
variable {d : Tmp} {ty t yt kt e : TypeId} {pos : String} {after : Array Edge}
theorem s_mnil [h : MpT P t kt e] {p : Option Nat} (hx : ev f x = .map p) (hy : ev f y = .map none) (hn : sO P n w0 f0 ops m rest QC (up f d (.bool p.isNone)) L) (hd : Nat.blt d n = true := by rfl) :
    sO P n w0 f0 ops m (⟨some d, .binOp .eql t x y yt, ty, pos, after, none⟩ :: rest) QC f L := by
  intro w H
  refine o_pure (v := .bool p.isNone) rfl hd ?_ (hn w H)
  show (Sem.run P (do pure (Next.value (← (do eqGuard .eql t x y (ev f x) (ev f y); binOp .eql t (ev f x) (ev f y))))) w) = _
  rw [hx, hy]
  have he : (Op.equal t (.map p) (.map none)).run P w = .ok p.isNone w := run_mnil' 9999 h.u
  simp [eqGuard, binOp, he, Result.andThen]
end

theorem meet_nil (A : Option Addr) (c : Nat) (ids : List Mr) (n : Nat) (q : Nat) (hn : n < ids.length) (hl : ids.length < 1000000) (h0 : nth ids n = ⟨none⟩) :
    Spec Try.prog 44 [.slice A ids.length c, .int .i64 n, .map (some q)] [own 58 A ids.length c ids] (fun _ _ => True) fun v L' => v = .bool true ∧ L' = [own 58 A ids.length c (ids.set n ⟨some q⟩)] := by
  refine spec_of Try.func44 rfl rfl fun w0 f0 _ => ?_
  (repeat' (first | refine s_move ?_ | refine s_assign ?_ | refine s_nil ?_ | (refine k_C ?_; first | refine s_seq ?_ | refine s_region ?_) | (refine k_E ?_; refine e_seq ?_) | (refine k_load ?_; refine s_ld rfl om rfl ?_) | (refine k_idx ?_; refine s_idx rfl rfl om ?_)))
  refine s_mnil rfl rfl ?_
  rw [h0]
  (repeat' (first | refine s_move ?_ | refine s_assign ?_ | refine s_nil ?_ | (refine k_C ?_; first | refine s_seq ?_ | refine s_region ?_ | refine s_ret ?_ | refine s_ift rfl ?_) | (refine k_E ?_; first | refine e_seq ?_ | refine e_seq_ret ?_) | (refine k_idx ?_; refine s_idx rfl rfl om ?_) | (refine k_store ?_; refine s_st _ rfl rfl om ?_)))
  exact e_done rfl rfl _ (PSub.take [0] rfl) ⟨rfl, rfl⟩

/-- What is left of l', l being what is made on the way. -/
def meetB (l' l : List Int) : List Int := l'.filter (· ∈ l)
set_option maxHeartbeats 1000000 in
theorem meet_other (A : Option Addr) (c : Nat) (ids : List Mr) (n : Nat) (q q' N N' : Nat) (l l' : List Int) (hn : n < ids.length) (hl : ids.length < 1000000) (h0 : nth ids n = ⟨some q'⟩) (hq : q' ≠ q) :
    Spec Try.prog 44 [.slice A ids.length c, .int .i64 n, .map (some q)] [own 58 A ids.length c ids, mp EB 3 q' N' (setF l'), mp EB 3 q N (setF l)] (fun _ _ => True)
      fun v L' => v = .bool (decide (∃ k ∈ l', k ∉ l)) ∧ L' = [own 58 A ids.length c ids, mp EB 3 q' N' (setF (meetB l' l)), mp EB 3 q N (setF l)] := by
  refine spec_of Try.func44 rfl rfl fun w0 f0 _ => ?_
  (repeat' (first | refine s_move ?_ | refine s_assign ?_ | refine s_nil ?_ | (refine k_C ?_; first | refine s_seq ?_ | refine s_region ?_) | (refine k_E ?_; refine e_seq ?_) | (refine k_load ?_; refine s_ld rfl om rfl ?_) | (refine k_idx ?_; refine s_idx rfl rfl om ?_)))
  refine s_mnil rfl rfl ?_
  rw [h0]
  (repeat' (first | refine s_move ?_ | refine s_assign ?_ | refine s_nil ?_ | (refine k_C ?_; first | refine s_seq ?_ | refine s_region ?_ | refine s_skip ?_ | refine s_iff rfl ?_) | (refine k_E ?_; refine e_seq ?_) | (refine k_load ?_; refine s_ld rfl om rfl ?_) | (refine k_idx ?_; refine s_idx rfl rfl om ?_)))
  have hx0 : Value.map (nth ids n).b = .map (some q') := by rw [h0]
  refine s_rangeD hx0 ?_
  intro cnt0 r
  (repeat' (first | refine s_nil ?_ | (refine k_C ?_; refine s_block ?_) | (refine k_E ?_; refine e_seq ?_)))
  refine s_loop (σ := (Int → Option Bool) × (Int → Bool) × Nat × Bool) (fun s => [(0, .slice A ids.length c), (1, .int .i64 n), (2, .map (some q)), (7, .bool s.2.2.2), (22, .pointer (some ⟨r, 0, none⟩))])
    (fun s => [own 58 A ids.length c ids, rgD EB 3 q' r N' s.1 s.2.1 s.2.2.1, mp EB 3 q N (setF l)])
    (fun s => (∀ k, s.1 k = if k ∈ l' ∧ (s.2.1 k = true ∨ k ∈ l) then some true else none) ∧ (∀ k, s.2.1 k = true → k ∈ l') ∧ (s.2.2.2 = true ↔ ∃ k, k ∈ l' ∧ s.2.1 k = false ∧ k ∉ l)) (fun s => s.2.2.1)
    (setF l', (fun k => (setF l' k).isSome), cnt0, false) (by repeat (first | exact trivial | refine ⟨rfl, ?_⟩)) ⟨fun k => ?_, fun k => ?_, ?_⟩ PSub.refl ?_
  · show setF l' k = _
    by_cases hk : k ∈ l' <;> simp [setF, hk]
  · by_cases hk : k ∈ l' <;> simp [setF, hk]
  · simp [setF]
    intro k h1 h2
    simp [h1] at h2
  rintro f ⟨F, todo, cnt, tu⟩ ⟨j1, j2, j3⟩
  dsimp only at j1 j2 j3 ⊢
  (repeat' (first | (refine k_C ?_; first | refine s_seq ?_ | refine s_region ?_)))
  refine s_nextD U_3 rfl (fun hf => ?_) (fun k x cnt' hk hg ht hF hlt => ?_)
  · have ht : ∀ k, todo k = false := fun k => by
      cases h : todo k with
      | false => rfl
      | true =>
        have := hf k (by rw [j1]; simp [h, j2 k h])
        rw [h] at this; cases this
    (repeat' (first | refine s_move ?_ | refine s_assign ?_ | refine s_nil ?_ | (refine k_C ?_; first | refine s_seq ?_ | refine s_region ?_ | refine s_exit ?_ | refine s_ret ?_ | refine s_iff rfl ?_) | (refine k_E ?_; first | refine e_seq ?_ | refine e_seq_exit ?_ | refine e_bk_exit ?_ | refine e_lp_exit ?_) | refine s_extract rfl rfl ?_))
    refine e_done rfl rfl _ PSub.refl ⟨?_, ?_⟩
    · show Value.bool tu = Value.bool (decide _)
      congr 1
      rw [Bool.eq_iff_iff, j3]
      simp [ht]
    · have : F = setF (meetB l' l) := by
        funext k
        rw [j1]
        simp [ht, setF, meetB]
      rw [this]
  · haveI : RdD (okOf w0 f0) w0 k := ⟨hk⟩
    (repeat' (first | refine s_nil ?_ | (refine k_C ?_; first | refine s_seq ?_ | refine s_region ?_ | refine s_skip ?_ | refine s_block ?_ | refine s_ift rfl ?_) | (refine k_E ?_; refine e_seq ?_) | refine s_extract rfl rfl ?_))
    refine s_entryD rfl ?_
    (repeat' (first | refine s_move ?_ | refine s_assign ?_ | refine s_nil ?_ | (refine k_C ?_; first | refine s_seq ?_ | refine s_region ?_ | refine s_skip ?_ | (refine s_if rfl ?_ ?_ <;> intro hc)) | (refine k_E ?_; first | refine e_seq ?_ | refine e_bk ?_) | (refine k_load ?_; refine s_ld rfl om rfl ?_) | (refine k_idx ?_; refine s_idx rfl rfl om ?_) | refine s_lookW rfl rfl ?_ | refine s_not rfl ?_ | refine s_extract rfl rfl ?_))
    · refine s_delD0 hx0 rfl ?_
      intro cnt2 hcnt2
      (repeat' (first | refine s_assign ?_ | refine s_nil ?_ | (refine k_C ?_; refine s_region ?_) | (refine k_E ?_; first | refine e_seq ?_ | refine e_bk ?_)))
      have hkl : k ∉ l := fun h => by simp [setF, h] at hc
      refine e_lp (upd F k none, fun j => todo j && j != k, cnt2, true) (by repeat (first | exact trivial | refine ⟨rfl, ?_⟩)) ⟨fun j => ?_, fun j hj => ?_, ?_⟩ (Nat.lt_of_le_of_lt hcnt2 hlt) (PSub.eq ?_)
      · show upd F k none j = _
        unfold upd
        by_cases e1 : j = k
        · subst e1; simp [hkl]
        · simp only [e1, if_false]; rw [j1]; simp [e1]
      · exact j2 j (by simp at hj; exact hj.1)
      · simp only [true_iff]
        exact ⟨k, j2 k ht, by simp, hkl⟩
      · simp only [Bool.and_assoc, Bool.and_self]
    · have hkl : k ∈ l := by
        by_cases h : k ∈ l
        · exact h
        · exfalso; simp [setF, h] at hc; cases hc
      refine e_lp (F, fun j => todo j && j != k, cnt', tu) (by repeat (first | exact trivial | refine ⟨rfl, ?_⟩)) ⟨fun j => ?_, fun j hj => ?_, ?_⟩ hlt PSub.refl
      · show F j = _
        rw [j1]
        by_cases e1 : j = k
        · subst e1; simp [hkl]
        · simp [e1]
      · exact j2 j (by simp at hj; exact hj.1)
      · show tu = true ↔ _
        rw [j3]
        constructor
        · rintro ⟨j, h1, h2, h3⟩; exact ⟨j, h1, by simp [h2], h3⟩
        · rintro ⟨j, h1, h2, h3⟩
          refine ⟨j, h1, ?_, h3⟩
          have : j ≠ k := fun e => h3 (e ▸ hkl)
          simpa [this] using h2

theorem meet_same (A : Option Addr) (c : Nat) (ids : List Mr) (n : Nat) (q N : Nat) (l : List Int) (hn : n < ids.length) (hl : ids.length < 1000000) (h0 : nth ids n = ⟨some q⟩) :
    Spec Try.prog 44 [.slice A ids.length c, .int .i64 n, .map (some q)] [own 58 A ids.length c ids, mp EB 3 q N (setF l)] (fun _ _ => True)
      fun v L' => v = .bool false ∧ L' = [own 58 A ids.length c ids, mp EB 3 q N (setF l)] := by
  refine spec_of Try.func44 rfl rfl fun w0 f0 _ => ?_
  (repeat' (first | refine s_move ?_ | refine s_assign ?_ | refine s_nil ?_ | (refine k_C ?_; first | refine s_seq ?_ | refine s_region ?_) | (refine k_E ?_; refine e_seq ?_) | (refine k_load ?_; refine s_ld rfl om rfl ?_) | (refine k_idx ?_; refine s_idx rfl rfl om ?_)))
  refine s_mnil rfl rfl ?_
  rw [h0]
  (repeat' (first | refine s_move ?_ | refine s_assign ?_ | refine s_nil ?_ | (refine k_C ?_; first | refine s_seq ?_ | refine s_region ?_ | refine s_skip ?_ | refine s_iff rfl ?_) | (refine k_E ?_; refine e_seq ?_) | (refine k_load ?_; refine s_ld rfl om rfl ?_) | (refine k_idx ?_; refine s_idx rfl rfl om ?_)))
  have hx0 : Value.map (nth ids n).b = .map (some q) := by rw [h0]
  refine s_rangeD hx0 ?_
  intro cnt0 r
  (repeat' (first | refine s_nil ?_ | (refine k_C ?_; refine s_block ?_) | (refine k_E ?_; refine e_seq ?_)))
  refine s_loop (σ := (Int → Bool) × Nat) (fun s => [(0, .slice A ids.length c), (1, .int .i64 n), (2, .map (some q)), (7, .bool false), (22, .pointer (some ⟨r, 0, none⟩))])
    (fun s => [own 58 A ids.length c ids, rgD EB 3 q r N (setF l) s.1 s.2]) (fun s => True) (fun s => s.2)
    ((fun k => (setF l k).isSome), cnt0) (by repeat (first | exact trivial | refine ⟨rfl, ?_⟩)) trivial PSub.refl ?_
  rintro f ⟨todo, cnt⟩ _
  dsimp only
  (repeat' (first | (refine k_C ?_; first | refine s_seq ?_ | refine s_region ?_)))
  refine s_nextD U_3 rfl (fun hf => ?_) (fun k x cnt' hk hg ht hF hlt => ?_)
  · (repeat' (first | refine s_move ?_ | refine s_assign ?_ | refine s_nil ?_ | (refine k_C ?_; first | refine s_seq ?_ | refine s_region ?_ | refine s_exit ?_ | refine s_ret ?_ | refine s_iff rfl ?_) | (refine k_E ?_; first | refine e_seq ?_ | refine e_seq_exit ?_ | refine e_bk_exit ?_ | refine e_lp_exit ?_) | refine s_extract rfl rfl ?_))
    exact e_done rfl rfl _ PSub.refl ⟨rfl, rfl⟩
  · haveI : RdD (okOf w0 f0) w0 k := ⟨hk⟩
    (repeat' (first | refine s_nil ?_ | (refine k_C ?_; first | refine s_seq ?_ | refine s_region ?_ | refine s_skip ?_ | refine s_block ?_ | refine s_ift rfl ?_) | (refine k_E ?_; refine e_seq ?_) | refine s_extract rfl rfl ?_))
    refine s_entryD rfl ?_
    (repeat' (first | refine s_move ?_ | refine s_assign ?_ | refine s_nil ?_ | (refine k_C ?_; first | refine s_seq ?_ | refine s_region ?_) | (refine k_E ?_; refine e_seq ?_) | refine s_extract rfl rfl ?_))
    refine s_lookD rfl rfl ?_
    have hk1 : setF l k = some true := by
      unfold setF at hF ⊢
      split at hF <;> first | cases hF | skip
      simp [*]
    rw [hk1]
    (repeat' (first | refine s_nil ?_ | (refine k_C ?_; first | refine s_skip ?_ | refine s_iff rfl ?_) | (refine k_E ?_; first | refine e_seq ?_ | refine e_bk ?_) | refine s_not rfl ?_))
    exact e_lp (fun j => todo j && j != k, cnt') (by repeat (first | exact trivial | refine ⟨rfl, ?_⟩)) trivial hlt PSub.refl
end Go.Proofs.Ytfplmdjlgjgbgaa
