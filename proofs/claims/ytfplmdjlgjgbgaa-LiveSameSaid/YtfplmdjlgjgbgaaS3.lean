/- Layer 7: sets as maps; after. -/
import Derived.Test.YtfplmdjlgjgbgaaS1
namespace Go.Proofs.Ytfplmdjlgjgbgaa
set_option linter.unusedVariables false
set_option linter.unusedSimpArgs false
open Go Go.RowKit

noncomputable abbrev EB : EK Try.prog 4 Bool := ekBool U_4
def setF (l : List Int) : Int → Option Bool := fun k => if k ∈ l then some true else none
theorem setF_nil : (fun _ => none) = setF [] := by funext k; simp [setF]
theorem setF_put (l : List Int) (k : Int) : upd (setF l) k (some true) = setF (l ++ [k]) := by
  funext j
  unfold upd setF
  by_cases h : j = k
  · simp [h]
  · simp [h]
theorem setF_get (l : List Int) (k : Int) : (setF l k).getD false = decide (k ∈ l) := by unfold setF; split <;> simp [*]
theorem setF_congr {l l' : List Int} (h : ∀ k, k ∈ l ↔ k ∈ l') : setF l = setF l' := by funext k; unfold setF; simp only [h k]
theorem take_nth {α : Type} [Enc α] {xs : List α} {i : Nat} (h : i < xs.length) : xs.take i ++ [nth xs i] = xs.take (i + 1) := by rw [nth_get h, List.take_append_getElem]
def dstsB7 (is : List SsaIns) : List Int := (is.map (·.fDst)).filter (· ≠ 0)
theorem dstsB7_app (a b : List SsaIns) : dstsB7 (a ++ b) = dstsB7 a ++ dstsB7 b := by simp [dstsB7]
theorem dstsB7_one {is : List SsaIns} {i : Nat} (h : i < is.length) (h0 : ¬ (nth is i).fDst = 0) : dstsB7 (is.take i) ++ [(nth is i).fDst] = dstsB7 (is.take (i + 1)) := by rw [← take_nth h, dstsB7_app]; simp [dstsB7, h0]
theorem dstsB7_none {is : List SsaIns} {i : Nat} (h : i < is.length) (h0 : (nth is i).fDst = 0) : dstsB7 (is.take i) = dstsB7 (is.take (i + 1)) := by rw [← take_nth h, dstsB7_app]; simp [dstsB7, h0]
def madeB (b : SsaBlock) : List Int := b.fParams.xs ++ dstsB7 b.fIns.xs
/-- A set that is only read. -/
def RdSet (v : Option Nat) (N : Nat) (l : List Int) : FP → World → Prop := fun ok w => RdM EB 3 ok w v N (setF l)
theorem RdSet.lasts (v : Option Nat) (N : Nat) (l : List Int) : Lasts (RdSet v N l) := fun _ _ _ _ h hk => h.loc hk

/-- Gone over so far. -/
def doneF (l : List Int) (todo : Int → Bool) : Int → Option Bool := fun k => if k ∈ l ∧ todo k = false then some true else none
theorem doneF_start (l : List Int) : (fun _ => none) = doneF l fun k => (setF l k).isSome := by
  funext k; unfold doneF setF
  by_cases h : k ∈ l <;> simp [h]
theorem doneF_step {l : List Int} {todo : Int → Bool} {k : Int} {x : Bool} (hF : setF l k = some x) : upd (doneF l todo) k (some true) = doneF l fun j => todo j && j != k := by
  have hk : k ∈ l := by
    unfold setF at hF
    split at hF
    · assumption
    · cases hF
  funext j
  unfold upd doneF
  by_cases h : j = k
  · subst h; simp [hk]
  · simp [h]
theorem doneF_end {l : List Int} {todo : Int → Bool} (h : ∀ k, setF l k ≠ none → todo k = false) : doneF l todo = setF l := by
  funext k
  unfold doneF setF
  by_cases hk : k ∈ l
  · have := h k (by unfold setF; simp [hk])
    simp [hk, this]
  · simp [hk]

set_option maxHeartbeats 1000000 in
theorem after_spec (v : Option Nat) (N : Nat) (l : List Int) (b : SsaBlock) (hN : N ≤ 100000000) (h1 : b.fParams.xs.length ≤ 100000) (h2 : b.fIns.xs.length ≤ 100000) :
    Spec Try.prog 43 [.map v, .agg (Enc.enc b).toArray] [] (fun ok w => RdSet v N l ok w ∧ RdD ok w b) fun r L' => ∃ q N', r = .map (some q) ∧ N' ≤ N + b.fParams.xs.length + b.fIns.xs.length ∧ L' = [mp EB 3 q N' (setF (l ++ madeB b))] := by
  refine spec_of Try.func43 rfl rfl fun w0 f0 ⟨hm, hb⟩ => ?_
  haveI : RdMp EB 3 (okOf w0 f0) w0 v N (setF l) := ⟨hm⟩
  (repeat' (first | refine s_move ?_ | refine s_assign ?_ | refine s_nil ?_ | (refine k_C ?_; first | refine s_seq ?_ | refine s_region ?_) | (refine k_E ?_; refine e_seq ?_) | (refine s_box _ rfl ?_; intro b) | (refine s_mkmapB ?_; intro b)))
  rename_i b3
  obtain ⟨b5, rfl⟩ : ∃ q, q = b := ⟨_, rfl⟩
  refine s_rangeS rfl ?_
  intro es clock cnt r hcnt hM
  (repeat' (first | refine s_nil ?_ | (refine k_C ?_; refine s_block ?_) | (refine k_E ?_; refine e_seq ?_)))
  refine s_loop (σ := (Int → Bool) × Nat × Nat) (fun s => [(3, .pointer (some ⟨b3, 0, none⟩)), (5, .map (some b5)), (13, .pointer (some ⟨r, 0, none⟩))])
    (fun s => [itr Try.prog 3 4 v r es clock s.1 s.2.1, mp EB 3 b5 s.2.2 (doneF l s.1), var 31 b3 b]) (fun s => s.2.2 + s.2.1 ≤ N) (fun s => s.2.1) ((fun k => (setF l k).isSome), cnt, 0) (by repeat (first | exact trivial | refine ⟨rfl, ?_⟩)) (by simpa using hcnt) (PSub.eq ?_) ?_
  · simp only [← doneF_start]
  rintro f ⟨todo, c1, n1⟩ hJ
  dsimp only at hJ
  (repeat' (first | (refine k_C ?_; first | refine s_seq ?_ | refine s_region ?_)))
  refine s_nextS U_3 hM rfl (fun hf => ?_) (fun k x cnt' hk hg ht hF hlt => ?_)
  · dsimp only
    (repeat' (first | refine s_move ?_ | refine s_nil ?_ | (refine k_C ?_; first | refine s_seq ?_ | refine s_region ?_ | refine s_block ?_ | refine s_exit ?_ | refine s_iff rfl ?_) | (refine k_E ?_; first | refine e_seq ?_ | refine e_seq_exit ?_ | refine e_bk_exit ?_ | refine e_lp_exit ?_) | (refine k_load ?_; refine s_ldB rfl rfl ?_) | (refine k_fld ?_; refine s_fldB rfl ?_) | (refine k_call ?_; refine s_len rfl ?_) | refine s_extract rfl rfl ?_))
    rw [doneF_end hf]
    refine s_loop (σ := Nat) (fun i => [(3, .pointer (some ⟨b3, 0, none⟩)), (5, .map (some b5)), (21, .slice b.fParams.A b.fParams.xs.length b.fParams.c), (22, .int .i64 b.fParams.xs.length), (23, .int .i64 i)])
      (fun i => [mp EB 3 b5 (n1 + i) (setF (l ++ b.fParams.xs.take i)), var 31 b3 b]) (fun i => i ≤ b.fParams.xs.length) (fun i => b.fParams.xs.length - i) 0 (by repeat (first | exact trivial | refine ⟨rfl, ?_⟩)) (Nat.zero_le _) (PSub.eq (by simp)) ?_
    intro f i hi
    (repeat' (first | refine s_move ?_ | refine s_assign ?_ | refine s_nil ?_ | (refine k_C ?_; first | refine s_seq ?_ | refine s_region ?_ | refine s_skip ?_ | refine s_block ?_ | refine s_exit ?_ | (refine s_ifd rfl ?_ ?_ <;> intro hc <;> try (exfalso; omega))) | (refine k_E ?_; first | refine e_seq ?_ | refine e_seq_exit ?_ | refine e_bk_exit ?_ | refine e_bk ?_ | refine e_lp_exit ?_) | (refine k_load ?_; first | refine s_ldB rfl rfl ?_ | refine s_ldS rfl rfl om rfl ?_) | (refine k_bin ?_; first | refine s_lss rfl rfl ?_ | refine s_add1 rfl rfl om ?_) | (refine k_fld ?_; refine s_fldB rfl ?_) | (refine k_idx ?_; refine s_idxS rfl rfl om ?_) | (refine k_call ?_; refine s_len rfl ?_) | refine s_putW (yv := true) rfl rfl rfl trivial om ?_))
    · refine e_lp (i + 1) (by repeat (first | exact trivial | refine ⟨rfl, ?_⟩)) (by omega) (by show _ - _ < _ - _; omega) (PSub.eq ?_)
      rw [setF_put, List.append_assoc, take_nth (by omega)]; rfl
    · have hi' : i = b.fParams.xs.length := by omega
      subst hi'
      rw [List.take_length]
      refine s_loop (σ := Nat × Nat) (fun s => [(3, .pointer (some ⟨b3, 0, none⟩)), (5, .map (some b5)), (31, .slice b.fIns.A b.fIns.xs.length b.fIns.c), (32, .int .i64 b.fIns.xs.length), (33, .int .i64 s.1)])
        (fun s => [mp EB 3 b5 s.2 (setF (l ++ b.fParams.xs ++ dstsB7 (b.fIns.xs.take s.1)))]) (fun s => s.1 ≤ b.fIns.xs.length ∧ s.2 ≤ n1 + b.fParams.xs.length + s.1) (fun s => b.fIns.xs.length - s.1) (0, n1 + b.fParams.xs.length) (by repeat (first | exact trivial | refine ⟨rfl, ?_⟩)) ⟨Nat.zero_le _, Nat.le_refl _⟩ (PSub.take [0] (by simp [pickL, dstsB7])) ?_
      rintro f ⟨i, m⟩ ⟨hi, hm'⟩
      dsimp only at hi hm'
      (repeat' (first | refine s_move ?_ | refine s_assign ?_ | refine s_nil ?_ | (refine k_C ?_; first | refine s_seq ?_ | refine s_region ?_ | refine s_skip ?_ | refine s_block ?_ | refine s_exit ?_ | refine s_ret ?_ | (refine s_ifd rfl ?_ ?_ <;> intro hc <;> try (exfalso; omega)) | (refine s_ifn rfl ?_ ?_ <;> intro hc <;> try (exfalso; omega))) | (refine k_E ?_; first | refine e_seq ?_ | refine e_seq_exit ?_ | refine e_bk_exit ?_ | refine e_bk ?_ | refine e_lp_exit ?_) | (refine k_load ?_; first | refine s_ldB rfl rfl ?_ | refine s_ldSA rfl rfl om rfl ?_) | (refine k_bin ?_; first | refine s_lss rfl rfl ?_ | refine s_add1 rfl rfl om ?_ | refine s_neq rfl rfl ?_) | (refine k_fld ?_; refine s_fldB rfl ?_) | (refine k_idx ?_; refine s_idxS rfl rfl om ?_) | (refine k_store ?_; refine s_stW _ rfl rfl ?_) | refine s_putW (yv := true) rfl rfl rfl trivial om ?_ | (refine s_alloc ?_; intro b)))
      · refine e_lp (i + 1, m + 1) (by repeat (first | exact trivial | refine ⟨rfl, ?_⟩)) ⟨by show i + 1 ≤ _; omega, by show m + 1 ≤ _ + (i + 1); omega⟩ (by show _ - _ < _ - _; omega) (PSub.take [1] ?_)
        show [_] = [_]
        rw [setF_put, List.append_assoc, dstsB7_one (by omega) hc]
      · refine e_lp (i + 1, m) (by repeat (first | exact trivial | refine ⟨rfl, ?_⟩)) ⟨by show i + 1 ≤ _; omega, by show m ≤ _ + (i + 1); omega⟩ (by show _ - _ < _ - _; omega) (PSub.take [1] ?_)
        show [_] = [_]
        rw [← dstsB7_none (i := i) (by omega) hc]
      · refine e_done rfl rfl _ (PSub.take [0] rfl) ⟨b5, m, rfl, by omega, ?_⟩
        have hi' : i = b.fIns.xs.length := by omega
        subst hi'
        rw [List.take_length, List.append_assoc]; rfl
  · haveI : RdD (okOf w0 f0) w0 k := ⟨hk⟩
    dsimp only at hlt ⊢
    (repeat' (first | refine s_nil ?_ | (refine k_C ?_; first | refine s_seq ?_ | refine s_region ?_ | refine s_skip ?_ | refine s_block ?_ | refine s_ift rfl ?_) | (refine k_E ?_; refine e_seq ?_) | refine s_extract rfl rfl ?_))
    refine s_entryS hM rfl ?_
    (repeat' (first | refine s_move ?_ | refine s_assign ?_ | refine s_nil ?_ | (refine k_C ?_; refine s_region ?_) | (refine k_E ?_; first | refine e_seq ?_ | refine e_bk ?_) | refine s_putW (yv := true) rfl rfl rfl trivial om ?_ | refine s_extract rfl rfl ?_))
    refine e_lp (fun j => todo j && j != k, cnt', n1 + 1) (by repeat (first | exact trivial | refine ⟨rfl, ?_⟩)) (by show n1 + 1 + cnt' ≤ N; omega) hlt (PSub.eq ?_)
    rw [doneF_step hF]
end Go.Proofs.Ytfplmdjlgjgbgaa
