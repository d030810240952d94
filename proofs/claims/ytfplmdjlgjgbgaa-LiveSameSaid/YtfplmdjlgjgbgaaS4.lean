/- Layer 7: meet. -/
import Derived.Test.YtfplmdjlgjgbgaaS3
import Derived.Test.YtfplmdjlgjgbgaaA10
namespace Go.Proofs.Ytfplmdjlgjgbgaa
set_option linter.unusedVariables false
set_option linter.unusedSimpArgs false
open Go Go.RowKit

theorem run_mnil' {P : Program} {w : World} (fuel : Nat) {t kt e : TypeId} {p : Option Nat} (ht : P.underlying t = some (.map kt e)) : (Op.equalIn (fuel + 1) t (.map p) (.map none)).run P w = .ok p.isNone w := by
  cases p <;> simp [Op.equalIn, run_underlying ht]
section
variable {P : Program} {n : Nat} {w0 : World} {f0 : FP} {ops : Array Oper} {m : Bool} {rest : List Oper} {QC : Exit → Fr → World → Prop} {f : Fr} {L : List HP} {x y : Operand}
variable {d : Tmp} {ty t yt kt e : TypeId} {pos : String} {after : Array Edge}
theorem s_mnil [h : MpT P t kt e] {p : Option Nat} (hx : ev f x = .map p) (hy : ev f y = .map none) (hn : sO P n w0 f0 ops m rest QC (up f d (.bool p.isNone)) L) (hd : Nat.blt d n = true := by rfl) :
    sO P n w0 f0 ops m (⟨some d, .binOp .eql t x y yt, ty, pos, after, none⟩ :: rest) QC f L := by
  intro w H
  refine o_pure (v := .bool p.isNone) rfl hd ?_ (hn w H)
  show (Sem.run P (do pure (Next.value (← (do eqGuard .eql t x y (ev f x) (ev f y); binOp .eql t (ev f x) (ev f y))))) w) = _
  rw [hx, hy]
  have he : (Op.equal t (.map p) (.map none)).run P w = .ok p.isNone w := run_mnil' 9999 h.u
  simp [eqGuard, binOp, he, Result.andThen]
end

theorem meet_nil (A : Option Addr) (c : Nat) (ids : List Mr) (n : Nat) (q : Nat) (hn : n < ids.length) (hl : ids.length < 1000000) (h0 : nth ids n = ⟨none⟩) :
    Spec Try.prog 44 [.slice A ids.length c, .int .i64 n, .map (some q)] [own 58 A ids.length c ids] (fun _ _ => True) fun v L' => v = .bool true ∧ L' = [own 58 A ids.length c (ids.set n ⟨some q⟩)] := by
  refine spec_of Try.func44 rfl rfl fun w0 f0 _ => ?_
  (repeat' (first | refine s_move ?_ | refine s_assign ?_ | refine s_nil ?_ | (refine k_C ?_; first | refine s_seq ?_ | refine s_region ?_) | (refine k_E ?_; refine e_seq ?_) | (refine k_load ?_; refine s_ld rfl om rfl ?_) | (refine k_idx ?_; refine s_idx rfl rfl om ?_)))
  refine s_mnil rfl rfl ?_
  rw [h0]
  (repeat' (first | refine s_move ?_ | refine s_assign ?_ | refine s_nil ?_ | (refine k_C ?_; first | refine s_seq ?_ | refine s_region ?_ | refine s_ret ?_ | refine s_ift rfl ?_) | (refine k_E ?_; first | refine e_seq ?_ | refine e_seq_ret ?_) | (refine k_idx ?_; refine s_idx rfl rfl om ?_) | (refine k_store ?_; refine s_st _ rfl rfl om ?_)))
  exact e_done rfl rfl _ (PSub.take [0] rfl) ⟨rfl, rfl⟩

/-- What is left of l', l being what is made on the way. -/
def meetB (l' l : List Int) : List Int := l'.filter (· ∈ l)
set_option maxHeartbeats 1000000 in
theorem meet_other (A : Option Addr) (c : Nat) (ids : List Mr) (n : Nat) (q q' N N' : Nat) (l l' : List Int) (hn : n < ids.length) (hl : ids.length < 1000000) (h0 : nth ids n = ⟨some q'⟩) (hq : q' ≠ q) :
    Spec Try.prog 44 [.slice A ids.length c, .int .i64 n, .map (some q)] [own 58 A ids.length c ids, mp EB 3 q' N' (setF l'), mp EB 3 q N (setF l)] (fun _ _ => True)
      fun v L' => v = .bool (decide (∃ k ∈ l', k ∉ l)) ∧ L' = [own 58 A ids.length c ids, mp EB 3 q' N' (setF (meetB l' l)), mp EB 3 q N (setF l)] := by
  refine spec_of Try.func44 rfl rfl fun w0 f0 _ => ?_
  (repeat' (first | refine s_move ?_ | refine s_assign ?_ | refine s_nil ?_ | (refine k_C ?_; first | refine s_seq ?_ | refine s_region ?_) | (refine k_E ?_; refine e_seq ?_) | (refine k_load ?_; refine s_ld rfl om rfl ?_) | (refine k_idx ?_; refine s_idx rfl rfl om ?_)))
  refine s_mnil rfl rfl ?_
  rw [h0]
  (repeat' (first | refine s_move ?_ | refine s_assign ?_ | refine s_nil ?_ | (refine k_C ?_; first | refine s_seq ?_ | refine s_region ?_ | refine s_skip ?_ | refine s_iff rfl ?_) | (refine k_E ?_; refine e_seq ?_) | (refine k_load ?_; refine s_ld rfl om rfl ?_) | (refine k_idx ?_; refine s_idx rfl rfl om ?_)))
  have hx0 : Value.map (nth ids n).b = .map (some q') := by rw [h0]
  refine s_rangeD hx0 ?_
  intro cnt0 r
  (repeat' (first | refine s_nil ?_ | (refine k_C ?_; refine s_block ?_) | (refine k_E ?_; refine e_seq ?_)))
  refine s_loop (σ := (Int → Option Bool) × (Int → Bool) × Nat × Bool) (fun s => [(0, .slice A ids.length c), (1, .int .i64 n), (2, .map (some q)), (7, .bool s.2.2.2), (22, .pointer (some ⟨r, 0, none⟩))])
    (fun s => [own 58 A ids.length c ids, rgD EB 3 q' r N' s.1 s.2.1 s.2.2.1, mp EB 3 q N (setF l)])
    (fun s => (∀ k, s.1 k = if k ∈ l' ∧ (s.2.1 k = true ∨ k ∈ l) then some true else none) ∧ (∀ k, s.2.1 k = true → k ∈ l') ∧ (s.2.2.2 = true ↔ ∃ k, k ∈ l' ∧ s.2.1 k = false ∧ k ∉ l)) (fun s => s.2.2.1)
    (setF l', (fun k => (setF l' k).isSome), cnt0, false) (by repeat (first | exact trivial | refine ⟨rfl, ?_⟩)) ⟨fun k => ?_, fun k => ?_, ?_⟩ PSub.refl ?_
  · show setF l' k = _
    by_cases hk : k ∈ l' <;> simp [setF, hk]
  · by_cases hk : k ∈ l' <;> simp [setF, hk]
  · simp [setF]
    intro k h1 h2
    simp [h1] at h2
  rintro f ⟨F, todo, cnt, tu⟩ ⟨j1, j2, j3⟩
  dsimp only at j1 j2 j3 ⊢
  (repeat' (first | (refine k_C ?_; first | refine s_seq ?_ | refine s_region ?_)))
  refine s_nextD U_3 rfl (fun hf => ?_) (fun k x cnt' hk hg ht hF hlt => ?_)
  · have ht : ∀ k, todo k = false := fun k => by
      cases h : todo k with
      | false => rfl
      | true =>
        have := hf k (by rw [j1]; simp [h, j2 k h])
        rw [h] at this; cases this
    (repeat' (first | refine s_move ?_ | refine s_assign ?_ | refine s_nil ?_ | (refine k_C ?_; first | refine s_seq ?_ | refine s_region ?_ | refine s_exit ?_ | refine s_ret ?_ | refine s_iff rfl ?_) | (refine k_E ?_; first | refine e_seq ?_ | refine e_seq_exit ?_ | refine e_bk_exit ?_ | refine e_lp_exit ?_) | refine s_extract rfl rfl ?_))
    refine e_done rfl rfl _ PSub.refl ⟨?_, ?_⟩
    · show Value.bool tu = Value.bool (decide _)
      congr 1
      rw [Bool.eq_iff_iff, j3]
      simp [ht]
    · have : F = setF (meetB l' l) := by
        funext k
        rw [j1]
        simp [ht, setF, meetB]
      rw [this]
  · haveI : RdD (okOf w0 f0) w0 k := ⟨hk⟩
    (repeat' (first | refine s_nil ?_ | (refine k_C ?_; first | refine s_seq ?_ | refine s_region ?_ | refine s_skip ?_ | refine s_block ?_ | refine s_ift rfl ?_) | (refine k_E ?_; refine e_seq ?_) | refine s_extract rfl rfl ?_))
    refine s_entryD rfl ?_
    (repeat' (first | refine s_move ?_ | refine s_assign ?_ | refine s_nil ?_ | (refine k_C ?_; first | refine s_seq ?_ | refine s_region ?_ | refine s_skip ?_ | (refine s_if rfl ?_ ?_ <;> intro hc)) | (refine k_E ?_; first | refine e_seq ?_ | refine e_bk ?_) | (refine k_load ?_; refine s_ld rfl om rfl ?_) | (refine k_idx ?_; refine s_idx rfl rfl om ?_) | refine s_lookW rfl rfl ?_ | refine s_not rfl ?_ | refine s_extract rfl rfl ?_))
    · refine s_delD0 hx0 rfl ?_
      intro cnt2 hcnt2
      (repeat' (first | refine s_assign ?_ | refine s_nil ?_ | (refine k_C ?_; refine s_region ?_) | (refine k_E ?_; first | refine e_seq ?_ | refine e_bk ?_)))
      have hkl : k ∉ l := fun h => by simp [setF, h] at hc
      refine e_lp (upd F k none, fun j => todo j && j != k, cnt2, true) (by repeat (first | exact trivial | refine ⟨rfl, ?_⟩)) ⟨fun j => ?_, fun j hj => ?_, ?_⟩ (Nat.lt_of_le_of_lt hcnt2 hlt) (PSub.eq ?_)
      · show upd F k none j = _
        unfold upd
        by_cases e1 : j = k
        · subst e1; simp [hkl]
        · simp only [e1, if_false]; rw [j1]; simp [e1]
      · exact j2 j (by simp at hj; exact hj.1)
      · simp only [true_iff]
        exact ⟨k, j2 k ht, by simp, hkl⟩
      · simp only [Bool.and_assoc, Bool.and_self]
    · have hkl : k ∈ l := by
        by_cases h : k ∈ l
        · exact h
        · exfalso; simp [setF, h] at hc; cases hc
      refine e_lp (F, fun j => todo j && j != k, cnt', tu) (by repeat (first | exact trivial | refine ⟨rfl, ?_⟩)) ⟨fun j => ?_, fun j hj => ?_, ?_⟩ hlt PSub.refl
      · show F j = _
        rw [j1]
        by_cases e1 : j = k
        · subst e1; simp [hkl]
        · simp [e1]
      · exact j2 j (by simp at hj; exact hj.1)
      · show tu = true ↔ _
        rw [j3]
        constructor
        · rintro ⟨j, h1, h2, h3⟩; exact ⟨j, h1, by simp [h2], h3⟩
        · rintro ⟨j, h1, h2, h3⟩
          refine ⟨j, h1, ?_, h3⟩
          have : j ≠ k := fun e => h3 (e ▸ hkl)
          simpa [this] using h2

theorem meet_same (A : Option Addr) (c : Nat) (ids : List Mr) (n : Nat) (q N : Nat) (l : List Int) (hn : n < ids.length) (hl : ids.length < 1000000) (h0 : nth ids n = ⟨some q⟩) :
    Spec Try.prog 44 [.slice A ids.length c, .int .i64 n, .map (some q)] [own 58 A ids.length c ids, mp EB 3 q N (setF l)] (fun _ _ => True)
      fun v L' => v = .bool false ∧ L' = [own 58 A ids.length c ids, mp EB 3 q N (setF l)] := by
  refine spec_of Try.func44 rfl rfl fun w0 f0 _ => ?_
  (repeat' (first | refine s_move ?_ | refine s_assign ?_ | refine s_nil ?_ | (refine k_C ?_; first | refine s_seq ?_ | refine s_region ?_) | (refine k_E ?_; refine e_seq ?_) | (refine k_load ?_; refine s_ld rfl om rfl ?_) | (refine k_idx ?_; refine s_idx rfl rfl om ?_)))
  refine s_mnil rfl rfl ?_
  rw [h0]
  (repeat' (first | refine s_move ?_ | refine s_assign ?_ | refine s_nil ?_ | (refine k_C ?_; first | refine s_seq ?_ | refine s_region ?_ | refine s_skip ?_ | refine s_iff rfl ?_) | (refine k_E ?_; refine e_seq ?_) | (refine k_load ?_; refine s_ld rfl om rfl ?_) | (refine k_idx ?_; refine s_idx rfl rfl om ?_)))
  have hx0 : Value.map (nth ids n).b = .map (some q) := by rw [h0]
  refine s_rangeD hx0 ?_
  intro cnt0 r
  (repeat' (first | refine s_nil ?_ | (refine k_C ?_; refine s_block ?_) | (refine k_E ?_; refine e_seq ?_)))
  refine s_loop (σ := (Int → Bool) × Nat) (fun s => [(0, .slice A ids.length c), (1, .int .i64 n), (2, .map (some q)), (7, .bool false), (22, .pointer (some ⟨r, 0, none⟩))])
    (fun s => [own 58 A ids.length c ids, rgD EB 3 q r N (setF l) s.1 s.2]) (fun s => True) (fun s => s.2)
    ((fun k => (setF l k).isSome), cnt0) (by repeat (first | exact trivial | refine ⟨rfl, ?_⟩)) trivial PSub.refl ?_
  rintro f ⟨todo, cnt⟩ _
  dsimp only
  (repeat' (first | (refine k_C ?_; first | refine s_seq ?_ | refine s_region ?_)))
  refine s_nextD U_3 rfl (fun hf => ?_) (fun k x cnt' hk hg ht hF hlt => ?_)
  · (repeat' (first | refine s_move ?_ | refine s_assign ?_ | refine s_nil ?_ | (refine k_C ?_; first | refine s_seq ?_ | refine s_region ?_ | refine s_exit ?_ | refine s_ret ?_ | refine s_iff rfl ?_) | (refine k_E ?_; first | refine e_seq ?_ | refine e_seq_exit ?_ | refine e_bk_exit ?_ | refine e_lp_exit ?_) | refine s_extract rfl rfl ?_))
    exact e_done rfl rfl _ PSub.refl ⟨rfl, rfl⟩
  · haveI : RdD (okOf w0 f0) w0 k := ⟨hk⟩
    (repeat' (first | refine s_nil ?_ | (refine k_C ?_; first | refine s_seq ?_ | refine s_region ?_ | refine s_skip ?_ | refine s_block ?_ | refine s_ift rfl ?_) | (refine k_E ?_; refine e_seq ?_) | refine s_extract rfl rfl ?_))
    refine s_entryD rfl ?_
    (repeat' (first | refine s_move ?_ | refine s_assign ?_ | refine s_nil ?_ | (refine k_C ?_; first | refine s_seq ?_ | refine s_region ?_) | (refine k_E ?_; refine e_seq ?_) | refine s_extract rfl rfl ?_))
    refine s_lookD rfl rfl ?_
    have hk1 : setF l k = some true := by
      unfold setF at hF ⊢
      split at hF <;> first | cases hF | skip
      simp [*]
    rw [hk1]
    (repeat' (first | refine s_nil ?_ | (refine k_C ?_; first | refine s_skip ?_ | refine s_iff rfl ?_) | (refine k_E ?_; first | refine e_seq ?_ | refine e_bk ?_) | refine s_not rfl ?_))
    exact e_lp (fun j => todo j && j != k, cnt') (by repeat (first | exact trivial | refine ⟨rfl, ?_⟩)) trivial hlt PSub.refl

section
variable {w0 : World} {f0 : FP} {L1 L2 : List HP} {put : HP → List HP} {P : Program} {e kt : TypeId} {α : Type} {E : EK P e α} {N : Nat} {F : Int → Option α}
theorem Ctx.map {w1 : World} {f1 : FP} (h : Ctx w0 f0 L1 L2 w1 f1) (b : Nat) [hp : PcM L2 b (mp E kt b N F) put] : RdM E kt (okOf w1 f1) w1 (some b) N F := by
  obtain ⟨i, hi, _⟩ := hp.at_
  obtain ⟨g, hg, hok⟩ := h.piece hi
  exact .inr ⟨b, rfl, hok b ((hg.1 b).2 rfl), hg.2⟩
end

/-- What is known: the set in a cell. -/
def RdNow (t b N : Nat) (l : List Int) : FP → World → Prop := fun ok w => RdB ok w t (Mr.mk (some b)) ∧ RdSet (some b) N l ok w
theorem RdNow.lasts (t b N : Nat) (l : List Int) : Lasts (RdNow t b N l) := (Lasts.b t _).and (RdSet.lasts _ _ _)

theorem used11_spec (t b N : Nat) (l : List Int) (k : Int) : Spec Try.prog 47 ([.int .i64 k] ++ [.pointer (some ⟨t, 0, none⟩)]) [] (fun ok w => RdNow t b N l ok w ∧ RdD ok w k) fun v L' => v = .bool (!decide (k ∈ l)) ∧ L' = [] := by
  refine spec_of Try.func47 rfl rfl fun w0 f0 ⟨⟨hb, hm⟩, hk⟩ => ?_
  haveI : RdMp EB 3 (okOf w0 f0) w0 (some b) N (setF l) := ⟨hm⟩
  (repeat' (first | refine s_move ?_ | refine s_assign ?_ | refine s_nil ?_ | (refine k_C ?_; first | refine s_seq ?_ | refine s_region ?_ | refine s_ret ?_) | (refine k_E ?_; refine e_seq ?_) | (refine k_load ?_; refine s_ldRB rfl rfl ?_) | refine s_lookSW rfl rfl ?_ | refine s_not rfl ?_))
  refine e_done rfl rfl _ (PSub.take [] rfl) ⟨?_, rfl⟩
  show Value.bool (!(setF l k).getD false) = _
  rw [setF_get]
theorem used1_spec (t b N : Nat) (l : List Int) (s : Sl Int) : Spec Try.prog 45 ([.slice s.A s.xs.length s.c] ++ [.pointer (some ⟨t, 0, none⟩)]) [] (fun ok w => RdNow t b N l ok w ∧ RdD ok w s) fun v L' => v = .bool (s.xs.all (· ∈ l)) ∧ L' = [] := by
  refine spec_of Try.func45 rfl rfl fun w0 f0 ⟨hN, hs⟩ => ?_
  (repeat' (first | refine s_move ?_ | refine s_assign ?_ | refine s_nil ?_ | (refine k_C ?_; first | refine s_seq ?_ | refine s_region ?_) | (refine k_E ?_; refine e_seq ?_) | refine s_func (v1 := []) (v2 := [.pointer _]) rfl rfl ?_))
  refine s_call0 (has_Int_spec _ [.pointer (some ⟨t, 0, none⟩)] s (fun x => !decide (x ∈ l)) (RdNow t b N l) (RdNow.lasts t b N l) (fun x _ => used11_spec t b N l x)) rfl (fun w1 H => ⟨(RdNow.lasts t b N l).at hN H, H.rdD hs⟩) ?_
  rintro v L' ⟨rfl, rfl⟩
  (repeat' (first | refine s_assign ?_ | refine s_nil ?_ | (refine k_C ?_; refine s_ret ?_) | (refine k_E ?_; refine e_seq ?_) | refine s_not rfl ?_))
  refine e_done rfl rfl _ (PSub.take [] rfl) ⟨?_, rfl⟩
  show Value.bool (!s.xs.any fun x => !decide (x ∈ l)) = _
  rw [List.not_any_eq_all_not]; simp

/-- What a block uses is known. -/
def usesI (l : List Int) : List SsaIns → Bool
  | [] => true
  | i :: is => i.fArgs.xs.all (· ∈ l) && usesI (if i.fDst = 0 then l else l ++ [i.fDst]) is
def usedB (l : List Int) (b : SsaBlock) : Bool :=
  usesI (l ++ b.fParams.xs) b.fIns.xs && b.fEnd.fWays.xs.all (fun w => w.fArgs.xs.all (· ∈ l ++ madeB b)) && (decide (b.fEnd.fVal = 0) || decide (b.fEnd.fVal ∈ l ++ madeB b))
theorem usesI_at {l : List Int} {is : List SsaIns} {i : Nat} (h : i < is.length) (h0 : ¬ (nth is i).fArgs.xs.all (· ∈ l ++ dstsB7 (is.take i)) = true) : usesI l is = false := by
  induction is generalizing l i with
  | nil => cases h
  | cons a is ih =>
    unfold usesI
    cases i with
    | zero =>
      have : (nth (a :: is) 0) = a := rfl
      rw [this] at h0
      simp only [List.take_zero, dstsB7, List.map_nil, List.filter_nil, List.append_nil] at h0
      simp only [Bool.and_eq_false_iff]
      exact .inl (by simpa using h0)
    | succ i =>
      have e1 : (nth (a :: is) (i + 1)) = nth is i := rfl
      rw [e1, List.take_succ_cons, show a :: is.take i = [a] ++ is.take i from rfl, dstsB7_app, ← List.append_assoc] at h0
      simp only [Bool.and_eq_false_iff]
      refine .inr (ih (by simpa using h) ?_)
      by_cases hd : a.fDst = 0
      · simpa [dstsB7, hd] using h0
      · simpa [dstsB7, hd] using h0
theorem usesI_all {l : List Int} {is : List SsaIns} (h : ∀ i, i < is.length → (nth is i).fArgs.xs.all (· ∈ l ++ dstsB7 (is.take i)) = true) : usesI l is = true := by
  induction is generalizing l with
  | nil => rfl
  | cons a is ih =>
    unfold usesI
    simp only [Bool.and_eq_true]
    constructor
    · have := h 0 (by simp)
      simpa [dstsB7, show nth (a :: is) 0 = a from rfl] using this
    · refine ih fun i hi => ?_
      have := h (i + 1) (by simpa using hi)
      have e1 : (nth (a :: is) (i + 1)) = nth is i := rfl
      rw [e1, List.take_succ_cons, show a :: is.take i = [a] ++ is.take i from rfl, dstsB7_app, ← List.append_assoc] at this
      by_cases hd : a.fDst = 0
      · simpa [dstsB7, hd] using this
      · simpa [dstsB7, hd] using this
set_option maxHeartbeats 2000000 in
theorem used_spec (v : Option Nat) (N : Nat) (l : List Int) (bl : SsaBlock) (hN : N ≤ 100000000) (h1 : bl.fParams.xs.length ≤ 100000) (h2 : bl.fIns.xs.length ≤ 100000) (h3 : bl.fEnd.fWays.xs.length ≤ 100000) :
    Spec Try.prog 37 [.map v, .agg (Enc.enc bl).toArray] [] (fun ok w => RdSet v N l ok w ∧ RdD ok w bl) fun r L' => r = .bool (usedB l bl) ∧ L' = [] := by
  refine spec_of Try.func37 rfl rfl fun w0 f0 ⟨hm, hb⟩ => ?_
  haveI : RdMp EB 3 (okOf w0 f0) w0 v N (setF l) := ⟨hm⟩
  (repeat' (first | refine s_move ?_ | refine s_assign ?_ | refine s_nil ?_ | (refine k_C ?_; first | refine s_seq ?_ | refine s_region ?_) | (refine k_E ?_; refine e_seq ?_) | (refine k_store ?_; refine s_stW _ rfl rfl ?_) | (refine s_alloc ?_; intro b) | (refine s_box _ rfl ?_; intro b) | (refine s_mkmapB ?_; intro b)))
  rename_i b3 m
  obtain ⟨t, rfl⟩ : ∃ q, q = b := ⟨_, rfl⟩
  refine s_rangeS rfl ?_
  intro es clock cnt r hcnt hM
  (repeat' (first | refine s_nil ?_ | (refine k_C ?_; refine s_block ?_) | (refine k_E ?_; refine e_seq ?_)))
  refine s_loop (σ := (Int → Bool) × Nat × Nat) (fun s => [(3, .pointer (some ⟨b3, 0, none⟩)), (5, .pointer (some ⟨t, 0, none⟩)), (16, .pointer (some ⟨r, 0, none⟩))])
    (fun s => [itr Try.prog 3 4 v r es clock s.1 s.2.1, var 58 t (Mr.mk (some m)), mp EB 3 m s.2.2 (doneF l s.1), var 31 b3 bl]) (fun s => s.2.2 + s.2.1 ≤ N) (fun s => s.2.1) ((fun k => (setF l k).isSome), cnt, 0) (by repeat (first | exact trivial | refine ⟨rfl, ?_⟩)) (by simpa using hcnt) (PSub.eq ?_) ?_
  · simp only [← doneF_start]
  rintro f ⟨todo, c1, n1⟩ hJ
  dsimp only at hJ
  (repeat' (first | (refine k_C ?_; first | refine s_seq ?_ | refine s_region ?_)))
  refine s_nextS U_3 hM rfl (fun hf => ?_) (fun k x cnt' hk hg ht hF hlt => ?_)
  · dsimp only
    (repeat' (first | refine s_move ?_ | refine s_nil ?_ | (refine k_C ?_; first | refine s_seq ?_ | refine s_region ?_ | refine s_block ?_ | refine s_exit ?_ | refine s_iff rfl ?_) | (refine k_E ?_; first | refine e_seq ?_ | refine e_seq_exit ?_ | refine e_bk_exit ?_ | refine e_lp_exit ?_) | (refine k_load ?_; refine s_ldB rfl rfl ?_) | (refine k_fld ?_; refine s_fldB rfl ?_) | (refine k_call ?_; refine s_len rfl ?_) | refine s_extract rfl rfl ?_))
    rw [doneF_end hf]
    refine s_loop (σ := Nat) (fun i => [(3, .pointer (some ⟨b3, 0, none⟩)), (5, .pointer (some ⟨t, 0, none⟩)), (24, .slice bl.fParams.A bl.fParams.xs.length bl.fParams.c), (25, .int .i64 bl.fParams.xs.length), (26, .int .i64 i)])
      (fun i => [var 58 t (Mr.mk (some m)), mp EB 3 m (n1 + i) (setF (l ++ bl.fParams.xs.take i)), var 31 b3 bl]) (fun i => i ≤ bl.fParams.xs.length) (fun i => bl.fParams.xs.length - i) 0 (by repeat (first | exact trivial | refine ⟨rfl, ?_⟩)) (Nat.zero_le _) (PSub.eq (by simp)) ?_
    intro f i hi
    (repeat' (first | refine s_move ?_ | refine s_assign ?_ | refine s_nil ?_ | (refine k_C ?_; first | refine s_seq ?_ | refine s_region ?_ | refine s_skip ?_ | refine s_block ?_ | refine s_exit ?_ | (refine s_ifd rfl ?_ ?_ <;> intro hc <;> try (exfalso; omega))) | (refine k_E ?_; first | refine e_seq ?_ | refine e_seq_exit ?_ | refine e_bk_exit ?_ | refine e_bk ?_ | refine e_lp_exit ?_) | (refine k_load ?_; first | refine s_ldB rfl rfl ?_ | refine s_ldS rfl rfl om rfl ?_) | (refine k_bin ?_; first | refine s_lss rfl rfl ?_ | refine s_add1 rfl rfl om ?_) | (refine k_fld ?_; refine s_fldB rfl ?_) | (refine k_idx ?_; refine s_idxS rfl rfl om ?_) | (refine k_call ?_; refine s_len rfl ?_) | refine s_func (v1 := []) (v2 := [.pointer _]) rfl rfl ?_ | refine s_putW (yv := true) rfl rfl rfl trivial om ?_))
    · refine e_lp (i + 1) (by repeat (first | exact trivial | refine ⟨rfl, ?_⟩)) (by omega) (by show _ - _ < _ - _; omega) (PSub.eq ?_)
      rw [setF_put, List.append_assoc, take_nth (by omega)]; rfl
    · have hi' : i = bl.fParams.xs.length := by omega
      subst hi'
      rw [List.take_length]
      refine s_loop (σ := Nat × Nat) (fun s => [(3, .pointer (some ⟨b3, 0, none⟩)), (5, .pointer (some ⟨t, 0, none⟩)), (9, .func (.func 45) #[] #[.pointer (some ⟨t, 0, none⟩)]), (35, .slice bl.fIns.A bl.fIns.xs.length bl.fIns.c), (36, .int .i64 bl.fIns.xs.length), (37, .int .i64 s.1)])
        (fun s => [var 58 t (Mr.mk (some m)), mp EB 3 m s.2 (setF (l ++ bl.fParams.xs ++ dstsB7 (bl.fIns.xs.take s.1))), var 31 b3 bl])
        (fun s => s.1 ≤ bl.fIns.xs.length ∧ s.2 ≤ n1 + bl.fParams.xs.length + s.1 ∧ ∀ j, j < s.1 → (nth bl.fIns.xs j).fArgs.xs.all (· ∈ l ++ bl.fParams.xs ++ dstsB7 (bl.fIns.xs.take j)) = true) (fun s => bl.fIns.xs.length - s.1) (0, n1 + bl.fParams.xs.length) (by repeat (first | exact trivial | refine ⟨rfl, ?_⟩)) ⟨Nat.zero_le _, Nat.le_refl _, fun j hj => absurd hj (Nat.not_lt_zero j)⟩ (PSub.eq (by simp [dstsB7])) ?_
      rintro f ⟨i, q⟩ ⟨hi, hm', hall⟩
      dsimp only at hi hm' hall ⊢
      (repeat' (first | refine s_move ?_ | refine s_nil ?_ | (refine k_C ?_; first | refine s_seq ?_ | refine s_region ?_ | refine s_skip ?_ | refine s_block ?_ | refine s_exit ?_ | (refine s_ifd rfl ?_ ?_ <;> intro hc <;> try (exfalso; omega))) | (refine k_E ?_; first | refine e_seq ?_ | refine e_seq_exit ?_ | refine e_bk_exit ?_ | refine e_lp_exit ?_) | (refine k_load ?_; first | refine s_ldB rfl rfl ?_ | refine s_ldSA rfl rfl om rfl ?_) | (refine k_bin ?_; refine s_lss rfl rfl ?_) | (refine k_fld ?_; refine s_fldB rfl ?_) | (refine k_idx ?_; refine s_idxS rfl rfl om ?_) | (refine k_store ?_; refine s_stW _ rfl rfl ?_) | (refine k_call ?_; refine s_len rfl ?_) | (refine s_alloc ?_; intro b)))
      · refine s_callV [] (captured := [.pointer (some ⟨t, 0, none⟩)]) rfl (used1_spec t m q (l ++ bl.fParams.xs ++ dstsB7 (bl.fIns.xs.take i)) (nth bl.fIns.xs i).fArgs) rfl rfl (fun w1 f1 C => ⟨⟨C.var t, C.map m⟩, C.rd (by infer_instance)⟩) ?_
        rintro r' L' ⟨rfl, rfl⟩
        (repeat' (first | refine s_move ?_ | refine s_assign ?_ | refine s_nil ?_ | (refine k_C ?_; first | refine s_seq ?_ | refine s_region ?_ | refine s_skip ?_ | refine s_ret ?_ | (refine s_ifn rfl ?_ ?_ <;> intro hc <;> try (exfalso; omega)) | (refine s_if rfl ?_ ?_ <;> intro hc)) | (refine k_E ?_; first | refine e_seq ?_ | refine e_seq_ret ?_ | refine e_bk_ret ?_ | refine e_bk ?_ | refine e_lp_ret ?_) | (refine k_load ?_; refine s_ldB rfl rfl ?_) | (refine k_bin ?_; first | refine s_add1 rfl rfl om ?_ | refine s_neq rfl rfl ?_) | (refine k_fld ?_; refine s_fldB rfl ?_) | refine s_putW (yv := true) rfl rfl rfl trivial om ?_ | refine s_not rfl ?_))
        · refine e_done rfl rfl _ (PSub.take [] rfl) ⟨?_, rfl⟩
          show Value.bool false = Value.bool _
          have := usesI_at (l := l ++ bl.fParams.xs) (is := bl.fIns.xs) (i := i) (by omega) (by intro h; rw [h] at hc; cases hc)
          rw [usedB, this]; rfl
        · rename_i hci
          refine e_lp (i + 1, q + 1) (by repeat (first | exact trivial | refine ⟨rfl, ?_⟩)) ⟨by show i + 1 ≤ _; omega, by show q + 1 ≤ _ + (i + 1); omega, fun j hj => ?_⟩ (by show _ - _ < _ - _; omega) (PSub.take [1, 1, 1] ?_)
          · rcases Nat.lt_succ_iff_lt_or_eq.1 (show j < i + 1 from hj) with h | rfl
            · exact hall j h
            · simpa using hci
          · show [_, _, _] = [_, _, _]
            rw [setF_put, List.append_assoc (l ++ bl.fParams.xs), dstsB7_one (by omega) hc]
        · rename_i hci
          refine e_lp (i + 1, q) (by repeat (first | exact trivial | refine ⟨rfl, ?_⟩)) ⟨by show i + 1 ≤ _; omega, by show q ≤ _ + (i + 1); omega, fun j hj => ?_⟩ (by show _ - _ < _ - _; omega) (PSub.take [1, 1, 1] ?_)
          · rcases Nat.lt_succ_iff_lt_or_eq.1 (show j < i + 1 from hj) with h | rfl
            · exact hall j h
            · simpa using hci
          · show [_, _, _] = [_, _, _]
            rw [← dstsB7_none (i := i) (by omega) hc]
      · refine s_loop (σ := Nat) (fun s => [(3, .pointer (some ⟨b3, 0, none⟩)), (5, .pointer (some ⟨t, 0, none⟩)), (9, .func (.func 45) #[] #[.pointer (some ⟨t, 0, none⟩)]), (55, .slice bl.fEnd.fWays.A bl.fEnd.fWays.xs.length bl.fEnd.fWays.c), (56, .int .i64 bl.fEnd.fWays.xs.length), (57, .int .i64 s)])
          (fun s => [var 58 t (Mr.mk (some m)), mp EB 3 m q (setF (l ++ madeB bl)), var 31 b3 bl])
          (fun s => s ≤ bl.fEnd.fWays.xs.length ∧ ∀ j, j < s → (nth bl.fEnd.fWays.xs j).fArgs.xs.all (· ∈ l ++ madeB bl) = true) (fun s => bl.fEnd.fWays.xs.length - s) 0 (by repeat (first | exact trivial | refine ⟨rfl, ?_⟩)) ⟨Nat.zero_le _, fun j hj => absurd hj (Nat.not_lt_zero j)⟩ (PSub.eq ?_) ?_
        · have hi' : i = bl.fIns.xs.length := by omega
          subst hi'
          rw [List.take_length, List.append_assoc]; rfl
        rintro f j ⟨hj, hallw⟩
        (repeat' (first | refine s_move ?_ | refine s_assign ?_ | refine s_nil ?_ | (refine k_C ?_; first | refine s_seq ?_ | refine s_region ?_ | refine s_skip ?_ | refine s_block ?_ | refine s_exit ?_ | refine s_ret ?_ | (refine s_ifd rfl ?_ ?_ <;> intro hc <;> try (exfalso; omega))) | (refine k_E ?_; first | refine e_seq ?_ | refine e_seq_exit ?_ | refine e_bk_exit ?_ | refine e_lp_exit ?_) | (refine k_load ?_; first | refine s_ldB rfl rfl ?_ | refine s_ldSA rfl rfl om rfl ?_) | (refine k_bin ?_; first | refine s_lss rfl rfl ?_ | refine s_eql rfl rfl ?_) | (refine k_fld ?_; refine s_fldB rfl ?_) | (refine k_idx ?_; refine s_idxS rfl rfl om ?_) | (refine k_store ?_; refine s_stW _ rfl rfl ?_) | (refine k_guard ?_; first | refine s_on rfl rfl ?_ | refine s_off rfl rfl rfl rfl ?_ | (refine s_casesd rfl rfl ?_ ?_ <;> intro hc <;> try (exfalso; omega))) | refine s_lookW rfl rfl ?_ | (refine s_alloc ?_; intro b) | refine s_pick rfl ?_))
        · refine s_callV [] (captured := [.pointer (some ⟨t, 0, none⟩)]) rfl (used1_spec t m q (l ++ madeB bl) (nth bl.fEnd.fWays.xs j).fArgs) rfl rfl (fun w1 f1 C => ⟨⟨C.var t, C.map m⟩, C.rd (by infer_instance)⟩) ?_
          rintro r' L' ⟨rfl, rfl⟩
          (repeat' (first | refine s_move ?_ | refine s_assign ?_ | refine s_nil ?_ | (refine k_C ?_; first | refine s_seq ?_ | refine s_region ?_ | refine s_skip ?_ | refine s_ret ?_ | (refine s_if rfl ?_ ?_ <;> intro hc)) | (refine k_E ?_; first | refine e_seq ?_ | refine e_seq_ret ?_ | refine e_bk_ret ?_ | refine e_bk ?_ | refine e_lp_ret ?_) | (refine k_bin ?_; refine s_add1 rfl rfl om ?_) | refine s_not rfl ?_))
          · refine e_done rfl rfl _ (PSub.take [] rfl) ⟨?_, rfl⟩
            show Value.bool false = Value.bool _
            have : (bl.fEnd.fWays.xs.all fun w => w.fArgs.xs.all (· ∈ l ++ madeB bl)) = false := by
              rw [List.all_eq_false]
              exact ⟨_, nth_mem (i := j) (by omega), by intro h; rw [h] at hc; cases hc⟩
            rw [usedB, this]; simp
          · refine e_lp (j + 1) (by repeat (first | exact trivial | refine ⟨rfl, ?_⟩)) ⟨by show j + 1 ≤ _; omega, fun k hk => ?_⟩ (by show _ - _ < _ - _; omega) (PSub.take [1, 1, 1] rfl)
            rcases Nat.lt_succ_iff_lt_or_eq.1 (show k < j + 1 from hk) with h | rfl
            · exact hallw k h
            · simpa using hc
        all_goals
          have hu : usesI (l ++ bl.fParams.xs) bl.fIns.xs = true := usesI_all fun k hk => hall k (by omega)
          have hw : (bl.fEnd.fWays.xs.all fun w => w.fArgs.xs.all (· ∈ l ++ madeB bl)) = true := by
            rw [List.all_eq_true]
            intro x hx
            obtain ⟨k, hk, rfl⟩ := List.mem_iff_getElem.1 hx
            rw [← nth_get hk]
            exact hallw k (by omega)
          refine e_done rfl rfl _ (PSub.take [] rfl) ⟨?_, rfl⟩
          rw [usedB, hu, hw]
        · show Value.bool true = _
          simp [hc]
        · show Value.bool ((setF (l ++ madeB bl) bl.fEnd.fVal).getD false) = _
          rw [setF_get]
          simp [hc]
  · haveI : RdD (okOf w0 f0) w0 k := ⟨hk⟩
    dsimp only at hlt ⊢
    (repeat' (first | refine s_nil ?_ | (refine k_C ?_; first | refine s_seq ?_ | refine s_region ?_ | refine s_skip ?_ | refine s_block ?_ | refine s_ift rfl ?_) | (refine k_E ?_; refine e_seq ?_) | refine s_extract rfl rfl ?_))
    refine s_entryS hM rfl ?_
    (repeat' (first | refine s_move ?_ | refine s_assign ?_ | refine s_nil ?_ | (refine k_C ?_; refine s_region ?_) | (refine k_E ?_; first | refine e_seq ?_ | refine e_bk ?_) | (refine k_load ?_; refine s_ldB rfl rfl ?_) | refine s_putW (yv := true) rfl rfl rfl trivial om ?_ | refine s_extract rfl rfl ?_))
    refine e_lp (fun j => todo j && j != k, cnt', n1 + 1) (by repeat (first | exact trivial | refine ⟨rfl, ?_⟩)) (by show n1 + 1 + cnt' ≤ N; omega) hlt (PSub.eq ?_)
    rw [doneF_step hF]
end Go.Proofs.Ytfplmdjlgjgbgaa
