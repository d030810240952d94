/- Layer 15: sets; what a block's end uses. -/
import Derived.Test.YtfplmdjlgjgbgaaS5
import Derived.Test.YtfplmdjlgjgbgaaA13
namespace Go.Proofs.Ytfplmdjlgjgbgaa
set_option linter.unusedVariables false
set_option linter.unusedSimpArgs false
open Go Go.RowKit

def setP (p : Int → Bool) : Int → Option Bool := fun k => if p k = true then some true else none
theorem setP_none : (fun _ => none) = setP fun _ => false := by funext k; rfl
theorem setP_put (p : Int → Bool) (k : Int) : upd (setP p) k (some true) = setP fun j => p j || decide (j = k) := by
  funext j
  unfold upd setP
  by_cases h : j = k <;> simp [h]
theorem setP_del (p : Int → Bool) (k : Int) : upd (setP p) k none = setP fun j => p j && !decide (j = k) := by
  funext j
  unfold upd setP
  by_cases h : j = k <;> simp [h]
theorem setP_get (p : Int → Bool) (k : Int) : (setP p k).getD false = p k := by unfold setP; cases p k <;> rfl
theorem setP_ne (p : Int → Bool) (k : Int) : setP p k ≠ none ↔ p k = true := by unfold setP; cases p k <;> simp
theorem setP_some (p : Int → Bool) (k : Int) : (setP p k).isSome = p k := by unfold setP; cases p k <;> rfl
/-- Gone over so far. -/
def goneP (p todo : Int → Bool) : Int → Bool := fun k => p k && !todo k
theorem goneP_start (p : Int → Bool) : (fun _ => none) = setP (goneP p fun k => (setP p k).isSome) := by
  funext k
  have h : goneP p (fun k => (setP p k).isSome) k = false := by
    show (p k && !(setP p k).isSome) = false
    rw [setP_some]; cases p k <;> rfl
  show none = if goneP p (fun k => (setP p k).isSome) k = true then some true else none
  rw [h]; rfl
theorem goneP_step {p todo : Int → Bool} {k : Int} {x : Bool} (hF : setP p k = some x) : upd (setP (goneP p todo)) k (some true) = setP (goneP p fun j => todo j && j != k) := by
  have hk : p k = true := (setP_ne p k).1 (by rw [hF]; simp)
  rw [setP_put]
  congr 1
  funext j
  unfold goneP
  by_cases h : j = k
  · subst h; simp [hk]
  · have h2 : (j != k) = true := by simpa using h
    simp only [h, h2, decide_false, Bool.or_false, Bool.and_true]
theorem goneP_end {p todo : Int → Bool} (h : ∀ k, setP p k ≠ none → todo k = false) : goneP p todo = p := by
  funext k
  unfold goneP
  cases hp : p k with
  | false => rfl
  | true => rw [h k ((setP_ne p k).2 hp)]; rfl
def addL (p : Int → Bool) (l : List Int) : Int → Bool := fun k => p k || decide (k ∈ l)
theorem addL_nil (p : Int → Bool) : addL p [] = p := by funext k; simp [addL]
theorem addL_put (p : Int → Bool) (l : List Int) (k : Int) : (fun j => addL p l j || decide (j = k)) = addL p (l ++ [k]) := by
  funext j; simp [addL, Bool.or_assoc]
theorem addL_app (p : Int → Bool) (l l' : List Int) : addL (addL p l) l' = addL p (l ++ l') := by
  funext j; simp [addL, Bool.or_assoc]
/-- What the end uses. -/
def usesE (e : SsaEnd) : List Int := (if e.fVal ≠ 0 then [e.fVal] else []) ++ e.fWays.xs.flatMap (·.fArgs.xs)
theorem usesE_wf {ok : FP} {w : World} {e : SsaEnd} (h : RdD ok w e) : ∀ k ∈ usesE e, wfi k := by
  obtain ⟨⟨_, h2, h3, _⟩⟩ := h
  intro k hk
  rcases List.mem_append.1 hk with hk | hk
  · split at hk
    · simp at hk; subst hk; exact h2
    · cases hk
  · obtain ⟨x, hx, hk⟩ := List.mem_flatMap.1 hk
    exact (h3.2 x hx).2.2 k hk
section
variable {P : Program} {n : Nat} {w0 : World} {f0 : FP} {ops : Array Oper} {rest : List Oper} {QC : Exit → Fr → World → Prop} {f : Fr} {L : List HP} {x y : Operand}
variable {ty t e kt : TypeId} {pos : String} {after : Array Edge} {α : Type} {E : EK P e α} {N : Nat} {F : Int → Option α} {put : HP → List HP} {b : Nat} {k : Int}
/-- delete, and what it tells is let go -/
theorem s_delN [hm : MpT P t kt e] (hx : ev f x = .map (some b)) (hy : ev f y = .int .i64 k) [h : PcM L b (mp E kt b N F) put] [hw : RdD (okOf w0 f0) w0 k] (hn : sO P n w0 f0 ops false rest QC f (put (mp E kt b N (upd F k none)))) : sO P n w0 f0 ops false (⟨none, .call { callee := .builtin .delete, args := #[x, y], argTypes := #[t, kt] }, ty, pos, after, none⟩ :: rest) QC f L := by
  intro w H
  obtain ⟨i, hi, h2⟩ := h.at_
  obtain ⟨f1, hA, _, hB⟩ := H.focus i hi
  obtain ⟨w', hrun, hM, r2⟩ := hA.2.del hm.k hm.u (RdD.int hw) ty
  refine o_val (w' := w') (v := .tuple #[]) rfl rfl ?_ (hn w' (by rw [h2]; exact hB w' _ f1 (Step.grown r2 fun b' hb' => by cases hb'; exact (hA.1 _).2 rfl) ⟨hA.1, hM⟩ fun b hb => .inl hb))
  simp [execOp, resolve, invoke, builtin, hx, hy, hrun]
end
theorem nth_take_flat {α : Type} [Enc α] {F : α → List Int} {xs : List α} {i : Nat} (h : i < xs.length) : (xs.take i).flatMap F ++ F (nth xs i) = (xs.take (i + 1)).flatMap F := by
  rw [← takeN h, List.flatMap_append]; simp
theorem take_flat_le {α : Type} {F : α → List Int} (xs : List α) (i : Nat) : ((xs.take i).flatMap F).length ≤ (xs.flatMap F).length := by
  conv => rhs; rw [← List.take_append_drop i xs, List.flatMap_append, List.length_append]
  omega
theorem uses_spec (e : SsaEnd) (hb : (usesE e).length ≤ 1000000) (hw : e.fWays.xs.length ≤ 100000) : Spec Try.prog 29 [.agg (Enc.enc e).toArray] [] (fun ok w => RdD ok w e) fun r L' => ∃ A c, r = .slice A (usesE e).length c ∧ L' = [own 3 A (usesE e).length c (usesE e)] := by
  refine spec_of Try.func29 rfl rfl fun w0 f0 hR => ?_
  (repeat' (first | refine s_move ?_ | refine s_assign ?_ | refine s_nil ?_ | (refine k_C ?_; first | refine s_seq ?_ | refine s_region ?_ | refine s_skip ?_ | refine s_block ?_ | (refine s_ifn rfl ?_ ?_ <;> intro hc <;> try (exfalso; omega))) | (refine k_E ?_; refine e_seq ?_) | (refine k_load ?_; refine s_ldB rfl rfl ?_) | (refine k_bin ?_; refine s_neq rfl rfl ?_) | (refine k_fld ?_; refine s_fldB rfl ?_) | (refine k_call ?_; refine s_len rfl ?_) | (refine s_box _ rfl ?_; intro b) | (refine s_app1N _ (fun _ => rfl) rfl (by decide) ?_; intro v A c)))
  · obtain ⟨b1, rfl⟩ : ∃ q, q = b := ⟨_, rfl⟩
    have hpre : usesE e = [e.fVal] ++ e.fWays.xs.flatMap (·.fArgs.xs) := by unfold usesE; rw [if_pos hc]
    have hle : ∀ i, ([e.fVal] ++ (e.fWays.xs.take i).flatMap (·.fArgs.xs)).length ≤ 1000000 := fun i => by
      have h1 := take_flat_le (F := fun w : SsaEdge => w.fArgs.xs) e.fWays.xs i
      have h2 := congrArg List.length hpre
      rw [List.length_append] at h2 ⊢
      omega
    refine s_loop (σ := Nat × Option Addr × Nat) (fun q => [(1, .pointer (some ⟨b1, 0, none⟩)), (3, .slice q.2.1 ([e.fVal] ++ (e.fWays.xs.take q.1).flatMap (·.fArgs.xs)).length q.2.2), (15, .slice e.fWays.A e.fWays.xs.length e.fWays.c), (16, .int .i64 e.fWays.xs.length), (17, .int .i64 (q.1 : Nat))])
      (fun q => [own 3 q.2.1 ([e.fVal] ++ (e.fWays.xs.take q.1).flatMap (·.fArgs.xs)).length q.2.2 ([e.fVal] ++ (e.fWays.xs.take q.1).flatMap (·.fArgs.xs)), var 29 b1 e])
      (fun q => q.1 ≤ e.fWays.xs.length) (fun q => e.fWays.xs.length - q.1) (0, A, c) (by repeat (first | exact trivial | refine ⟨rfl, ?_⟩)) (Nat.zero_le _) PSub.refl ?_
    rintro g ⟨i, A, c⟩ hi
    dsimp only at hi ⊢
    (repeat' (first | refine s_nil ?_ | (refine k_C ?_; first | refine s_seq ?_ | refine s_region ?_) | (refine k_E ?_; refine e_seq ?_) | (refine k_bin ?_; refine s_lss rfl rfl ?_)))
    (first | (refine k_C ?_; (refine s_ifd rfl ?_ ?_ <;> intro hc <;> try (exfalso; omega))))
    · have hin : i < e.fWays.xs.length := by omega
      have e1 : ([e.fVal] ++ (e.fWays.xs.take i).flatMap (·.fArgs.xs)) ++ (nth e.fWays.xs i).fArgs.xs = [e.fVal] ++ (e.fWays.xs.take (i + 1)).flatMap (·.fArgs.xs) := by rw [List.append_assoc, nth_take_flat (F := fun w : SsaEdge => w.fArgs.xs) hin]
      have h1 := hle (i + 1)
      rw [← e1, List.length_append] at h1
      generalize hl : ([e.fVal] ++ (e.fWays.xs.take i).flatMap (·.fArgs.xs)) = pp at h1 e1 ⊢
      (repeat' (first | refine s_move ?_ | refine s_assign ?_ | refine s_nil ?_ | (refine k_C ?_; first | refine s_seq ?_ | refine s_region ?_ | refine s_skip ?_ | refine s_block ?_) | (refine k_E ?_; first | refine e_seq ?_ | refine e_bk ?_) | (refine k_load ?_; first | refine s_ldB rfl rfl ?_ | refine s_ldSA rfl rfl om rfl ?_) | (refine k_bin ?_; refine s_add1 rfl rfl om ?_) | (refine k_fld ?_; refine s_fldB rfl ?_) | (refine k_idx ?_; refine s_idxS rfl rfl om ?_) | (refine k_store ?_; refine s_stW _ rfl rfl ?_) | (refine k_call ?_; (refine s_appS rfl rfl om ?_; intro A c)) | (refine s_alloc ?_; intro b)))
      refine e_lp (i + 1, A, c) (by refine ⟨rfl, ?_, rfl, rfl, rfl, trivial⟩; rw [← e1, List.length_append]; rfl) (by show i + 1 ≤ _; omega) (by show _ - _ < _ - _; omega) (PSub.take [1, 1] ?_)
      show [_, _] = [_, _]
      rw [← e1, List.length_append]
    · have hiE : i = e.fWays.xs.length := by omega
      subst hiE
      rw [List.take_length, ← hpre]
      (repeat' (first | refine s_move ?_ | refine s_assign ?_ | refine s_nil ?_ | (refine k_C ?_; first | refine s_seq ?_ | refine s_region ?_ | refine s_exit ?_ | refine s_ret ?_) | (refine k_E ?_; first | refine e_seq ?_ | refine e_seq_exit ?_ | refine e_bk_exit ?_ | refine e_lp_exit ?_)))
      exact e_done rfl rfl _ (PSub.take [0] rfl) ⟨A, c, rfl, rfl⟩
  · obtain ⟨b1, rfl⟩ : ∃ q, q = b := ⟨_, rfl⟩
    refine s_sub (PSub.nilOwn (α := Int) 3) ?_
    have hpre : usesE e = ([] : List Int) ++ e.fWays.xs.flatMap (·.fArgs.xs) := by unfold usesE; rw [if_neg (fun h => h hc)]
    have hle : ∀ i, (([] : List Int) ++ (e.fWays.xs.take i).flatMap (·.fArgs.xs)).length ≤ 1000000 := fun i => by
      have h1 := take_flat_le (F := fun w : SsaEdge => w.fArgs.xs) e.fWays.xs i
      have h2 := congrArg List.length hpre
      rw [List.length_append] at h2 ⊢
      omega
    refine s_loop (σ := Nat × Option Addr × Nat) (fun q => [(1, .pointer (some ⟨b1, 0, none⟩)), (3, .slice q.2.1 (([] : List Int) ++ (e.fWays.xs.take q.1).flatMap (·.fArgs.xs)).length q.2.2), (15, .slice e.fWays.A e.fWays.xs.length e.fWays.c), (16, .int .i64 e.fWays.xs.length), (17, .int .i64 (q.1 : Nat))])
      (fun q => [own 3 q.2.1 (([] : List Int) ++ (e.fWays.xs.take q.1).flatMap (·.fArgs.xs)).length q.2.2 (([] : List Int) ++ (e.fWays.xs.take q.1).flatMap (·.fArgs.xs)), var 29 b1 e])
      (fun q => q.1 ≤ e.fWays.xs.length) (fun q => e.fWays.xs.length - q.1) (0, none, 0) (by repeat (first | exact trivial | refine ⟨rfl, ?_⟩)) (Nat.zero_le _) PSub.refl ?_
    rintro g ⟨i, A, c⟩ hi
    dsimp only at hi ⊢
    (repeat' (first | refine s_nil ?_ | (refine k_C ?_; first | refine s_seq ?_ | refine s_region ?_) | (refine k_E ?_; refine e_seq ?_) | (refine k_bin ?_; refine s_lss rfl rfl ?_)))
    (first | (refine k_C ?_; (refine s_ifd rfl ?_ ?_ <;> intro hc <;> try (exfalso; omega))))
    · have hin : i < e.fWays.xs.length := by omega
      have e1 : (([] : List Int) ++ (e.fWays.xs.take i).flatMap (·.fArgs.xs)) ++ (nth e.fWays.xs i).fArgs.xs = ([] : List Int) ++ (e.fWays.xs.take (i + 1)).flatMap (·.fArgs.xs) := by rw [List.append_assoc, nth_take_flat (F := fun w : SsaEdge => w.fArgs.xs) hin]
      have h1 := hle (i + 1)
      rw [← e1, List.length_append] at h1
      generalize hl : (([] : List Int) ++ (e.fWays.xs.take i).flatMap (·.fArgs.xs)) = pp at h1 e1 ⊢
      (repeat' (first | refine s_move ?_ | refine s_assign ?_ | refine s_nil ?_ | (refine k_C ?_; first | refine s_seq ?_ | refine s_region ?_ | refine s_skip ?_ | refine s_block ?_) | (refine k_E ?_; first | refine e_seq ?_ | refine e_bk ?_) | (refine k_load ?_; first | refine s_ldB rfl rfl ?_ | refine s_ldSA rfl rfl om rfl ?_) | (refine k_bin ?_; refine s_add1 rfl rfl om ?_) | (refine k_fld ?_; refine s_fldB rfl ?_) | (refine k_idx ?_; refine s_idxS rfl rfl om ?_) | (refine k_store ?_; refine s_stW _ rfl rfl ?_) | (refine k_call ?_; (refine s_appS rfl rfl om ?_; intro A c)) | (refine s_alloc ?_; intro b)))
      refine e_lp (i + 1, A, c) (by refine ⟨rfl, ?_, rfl, rfl, rfl, trivial⟩; rw [← e1, List.length_append]; rfl) (by show i + 1 ≤ _; omega) (by show _ - _ < _ - _; omega) (PSub.take [1, 1] ?_)
      show [_, _] = [_, _]
      rw [← e1, List.length_append]
    · have hiE : i = e.fWays.xs.length := by omega
      subst hiE
      rw [List.take_length, ← hpre]
      (repeat' (first | refine s_move ?_ | refine s_assign ?_ | refine s_nil ?_ | (refine k_C ?_; first | refine s_seq ?_ | refine s_region ?_ | refine s_exit ?_ | refine s_ret ?_) | (refine k_E ?_; first | refine e_seq ?_ | refine e_seq_exit ?_ | refine e_bk_exit ?_ | refine e_lp_exit ?_)))
      exact e_done rfl rfl _ (PSub.take [0] rfl) ⟨A, c, rfl, rfl⟩
end Go.Proofs.Ytfplmdjlgjgbgaa
