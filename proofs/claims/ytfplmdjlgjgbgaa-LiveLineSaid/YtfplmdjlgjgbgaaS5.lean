/- Layer 7: used. -/
import Derived.Test.YtfplmdjlgjgbgaaS4
namespace Go.Proofs.Ytfplmdjlgjgbgaa
set_option linter.unusedVariables false
set_option linter.unusedSimpArgs false
open Go Go.RowKit

section
variable {w0 : World} {f0 : FP} {L1 L2 : List HP} {put : HP → List HP} {P : Program} {e kt : TypeId} {α : Type} {E : EK P e α} {N : Nat} {F : Int → Option α}
theorem Ctx.map {w1 : World} {f1 : FP} (h : Ctx w0 f0 L1 L2 w1 f1) (b : Nat) [hp : PcM L2 b (mp E kt b N F) put] : RdM E kt (okOf w1 f1) w1 (some b) N F := by
  obtain ⟨i, hi, _⟩ := hp.at_
  obtain ⟨g, hg, hok⟩ := h.piece hi
  exact .inr ⟨b, rfl, hok b ((hg.1 b).2 rfl), hg.2⟩
end

/-- What is known: the set in a cell. -/
def RdNow (t b N : Nat) (l : List Int) : FP → World → Prop := fun ok w => RdB ok w t (Mr.mk (some b)) ∧ RdSet (some b) N l ok w
theorem RdNow.lasts (t b N : Nat) (l : List Int) : Lasts (RdNow t b N l) := (Lasts.b t _).and (RdSet.lasts _ _ _)

theorem used11_spec (t b N : Nat) (l : List Int) (k : Int) : Spec Try.prog 47 ([.int .i64 k] ++ [.pointer (some ⟨t, 0, none⟩)]) [] (fun ok w => RdNow t b N l ok w ∧ RdD ok w k) fun v L' => v = .bool (!decide (k ∈ l)) ∧ L' = [] := by
  refine spec_of Try.func47 rfl rfl fun w0 f0 ⟨⟨hb, hm⟩, hk⟩ => ?_
  haveI : RdMp EB 3 (okOf w0 f0) w0 (some b) N (setF l) := ⟨hm⟩
  (repeat' (first | refine s_move ?_ | refine s_assign ?_ | refine s_nil ?_ | (refine k_C ?_; first | refine s_seq ?_ | refine s_region ?_ | refine s_ret ?_) | (refine k_E ?_; refine e_seq ?_) | (refine k_load ?_; refine s_ldRB rfl rfl ?_) | refine s_lookSW rfl rfl ?_ | refine s_not rfl ?_))
  refine e_done rfl rfl _ (PSub.take [] rfl) ⟨?_, rfl⟩
  show Value.bool (!(setF l k).getD false) = _
  rw [setF_get]
theorem used1_spec (t b N : Nat) (l : List Int) (s : Sl Int) : Spec Try.prog 45 ([.slice s.A s.xs.length s.c] ++ [.pointer (some ⟨t, 0, none⟩)]) [] (fun ok w => RdNow t b N l ok w ∧ RdD ok w s) fun v L' => v = .bool (s.xs.all (· ∈ l)) ∧ L' = [] := by
  refine spec_of Try.func45 rfl rfl fun w0 f0 ⟨hN, hs⟩ => ?_
  (repeat' (first | refine s_move ?_ | refine s_assign ?_ | refine s_nil ?_ | (refine k_C ?_; first | refine s_seq ?_ | refine s_region ?_) | (refine k_E ?_; refine e_seq ?_) | refine s_func (v1 := []) (v2 := [.pointer _]) rfl rfl ?_))
  refine s_call0 (has_Int_spec _ [.pointer (some ⟨t, 0, none⟩)] s (fun x => !decide (x ∈ l)) (RdNow t b N l) (RdNow.lasts t b N l) (fun x _ => used11_spec t b N l x)) rfl (fun w1 H => ⟨(RdNow.lasts t b N l).at hN H, H.rdD hs⟩) ?_
  rintro v L' ⟨rfl, rfl⟩
  (repeat' (first | refine s_assign ?_ | refine s_nil ?_ | (refine k_C ?_; refine s_ret ?_) | (refine k_E ?_; refine e_seq ?_) | refine s_not rfl ?_))
  refine e_done rfl rfl _ (PSub.take [] rfl) ⟨?_, rfl⟩
  show Value.bool (!s.xs.any fun x => !decide (x ∈ l)) = _
  rw [List.not_any_eq_all_not]; simp

/-- What a block uses is known. -/
def usesI (l : List Int) : List SsaIns → Bool
  | [] => true
  | i :: is => i.fArgs.xs.all (· ∈ l) && usesI (if i.fDst = 0 then l else l ++ [i.fDst]) is
def usedB (l : List Int) (b : SsaBlock) : Bool :=
  usesI (l ++ b.fParams.xs) b.fIns.xs && b.fEnd.fWays.xs.all (fun w => w.fArgs.xs.all (· ∈ l ++ madeB b)) && (decide (b.fEnd.fVal = 0) || decide (b.fEnd.fVal ∈ l ++ madeB b))
theorem usesI_at {l : List Int} {is : List SsaIns} {i : Nat} (h : i < is.length) (h0 : ¬ (nth is i).fArgs.xs.all (· ∈ l ++ dstsB7 (is.take i)) = true) : usesI l is = false := by
  induction is generalizing l i with
  | nil => cases h
  | cons a is ih =>
    unfold usesI
    cases i with
    | zero =>
      have : (nth (a :: is) 0) = a := rfl
      rw [this] at h0
      simp only [List.take_zero, dstsB7, List.map_nil, List.filter_nil, List.append_nil] at h0
      simp only [Bool.and_eq_false_iff]
      exact .inl (by simpa using h0)
    | succ i =>
      have e1 : (nth (a :: is) (i + 1)) = nth is i := rfl
      rw [e1, List.take_succ_cons, show a :: is.take i = [a] ++ is.take i from rfl, dstsB7_app, ← List.append_assoc] at h0
      simp only [Bool.and_eq_false_iff]
      refine .inr (ih (by simpa using h) ?_)
      by_cases hd : a.fDst = 0
      · simpa [dstsB7, hd] using h0
      · simpa [dstsB7, hd] using h0
theorem usesI_all {l : List Int} {is : List SsaIns} (h : ∀ i, i < is.length → (nth is i).fArgs.xs.all (· ∈ l ++ dstsB7 (is.take i)) = true) : usesI l is = true := by
  induction is generalizing l with
  | nil => rfl
  | cons a is ih =>
    unfold usesI
    simp only [Bool.and_eq_true]
    constructor
    · have := h 0 (by simp)
      simpa [dstsB7, show nth (a :: is) 0 = a from rfl] using this
    · refine ih fun i hi => ?_
      have := h (i + 1) (by simpa using hi)
      have e1 : (nth (a :: is) (i + 1)) = nth is i := rfl
      rw [e1, List.take_succ_cons, show a :: is.take i = [a] ++ is.take i from rfl, dstsB7_app, ← List.append_assoc] at this
      by_cases hd : a.fDst = 0
      · simpa [dstsB7, hd] using this
      · simpa [dstsB7, hd] using this
end Go.Proofs.Ytfplmdjlgjgbgaa
