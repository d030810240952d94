/- Layer 15: sets; what a block's end uses. -/
import Derived.Test.YtfplmdjlgjgbgaaS1
import Derived.Test.YtfplmdjlgjgbgaaA10
namespace Go.Proofs.Ytfplmdjlgjgbgaa
set_option linter.unusedVariables false
set_option linter.unusedSimpArgs false
open Go Go.RowKit

def setP (p : Int → Bool) : Int → Option Bool := fun k => if p k = true then some true else none
theorem setP_none : (fun _ => none) = setP fun _ => false := by funext k; rfl
theorem setP_put (p : Int → Bool) (k : Int) : upd (setP p) k (some true) = setP fun j => p j || decide (j = k) := by
  funext j
  unfold upd setP
  by_cases h : j = k <;> simp [h]
theorem setP_del (p : Int → Bool) (k : Int) : upd (setP p) k none = setP fun j => p j && !decide (j = k) := by
  funext j
  unfold upd setP
  by_cases h : j = k <;> simp [h]
theorem setP_get (p : Int → Bool) (k : Int) : (setP p k).getD false = p k := by unfold setP; cases p k <;> rfl
theorem setP_ne (p : Int → Bool) (k : Int) : setP p k ≠ none ↔ p k = true := by unfold setP; cases p k <;> simp
theorem setP_some (p : Int → Bool) (k : Int) : (setP p k).isSome = p k := by unfold setP; cases p k <;> rfl
/-- Gone over so far. -/
def goneP (p todo : Int → Bool) : Int → Bool := fun k => p k && !todo k
theorem goneP_start (p : Int → Bool) : (fun _ => none) = setP (goneP p fun k => (setP p k).isSome) := by
  funext k
  have h : goneP p (fun k => (setP p k).isSome) k = false := by
    show (p k && !(setP p k).isSome) = false
    rw [setP_some]; cases p k <;> rfl
  show none = if goneP p (fun k => (setP p k).isSome) k = true then some true else none
  rw [h]; rfl
theorem goneP_step {p todo : Int → Bool} {k : Int} {x : Bool} (hF : setP p k = some x) : upd (setP (goneP p todo)) k (some true) = setP (goneP p fun j => todo j && j != k) := by
  have hk : p k = true := (setP_ne p k).1 (by rw [hF]; simp)
  rw [setP_put]
  congr 1
  funext j
  unfold goneP
  by_cases h : j = k
  · subst h; simp [hk]
  · have h2 : (j != k) = true := by simpa using h
    simp only [h, h2, decide_false, Bool.or_false, Bool.and_true]
theorem goneP_end {p todo : Int → Bool} (h : ∀ k, setP p k ≠ none → todo k = false) : goneP p todo = p := by
  funext k
  unfold goneP
  cases hp : p k with
  | false => rfl
  | true => rw [h k ((setP_ne p k).2 hp)]; rfl
def addL (p : Int → Bool) (l : List Int) : Int → Bool := fun k => p k || decide (k ∈ l)
theorem addL_nil (p : Int → Bool) : addL p [] = p := by funext k; simp [addL]
theorem addL_put (p : Int → Bool) (l : List Int) (k : Int) : (fun j => addL p l j || decide (j = k)) = addL p (l ++ [k]) := by
  funext j; simp [addL, Bool.or_assoc]
theorem addL_app (p : Int → Bool) (l l' : List Int) : addL (addL p l) l' = addL p (l ++ l') := by
  funext j; simp [addL, Bool.or_assoc]
/-- What the end uses. -/
def usesE (e : SsaEnd) : List Int := (if e.fVal ≠ 0 then [e.fVal] else []) ++ e.fWays.xs.flatMap (·.fArgs.xs)
theorem usesE_wf {ok : FP} {w : World} {e : SsaEnd} (h : RdD ok w e) : ∀ k ∈ usesE e, wfi k := by
  obtain ⟨⟨_, h2, h3, _⟩⟩ := h
  intro k hk
  rcases List.mem_append.1 hk with hk | hk
  · split at hk
    · simp at hk; subst hk; exact h2
    · cases hk
  · obtain ⟨x, hx, hk⟩ := List.mem_flatMap.1 hk
    exact (h3.2 x hx).2.2 k hk
section
variable {P : Program} {n : Nat} {w0 : World} {f0 : FP} {ops : Array Oper} {rest : List Oper} {QC : Exit → Fr → World → Prop} {f : Fr} {L : List HP} {x y : Operand}
variable {ty t e kt : TypeId} {pos : String} {after : Array Edge} {α : Type} {E : EK P e α} {N : Nat} {F : Int → Option α} {put : HP → List HP} {b : Nat} {k : Int}
/-- delete, and what it tells is let go -/
theorem s_delN [hm : MpT P t kt e] (hx : ev f x = .map (some b)) (hy : ev f y = .int .i64 k) [h : PcM L b (mp E kt b N F) put] [hw : RdD (okOf w0 f0) w0 k] (hn : sO P n w0 f0 ops false rest QC f (put (mp E kt b N (upd F k none)))) : sO P n w0 f0 ops false (⟨none, .call { callee := .builtin .delete, args := #[x, y], argTypes := #[t, kt] }, ty, pos, after, none⟩ :: rest) QC f L := by
  intro w H
  obtain ⟨i, hi, h2⟩ := h.at_
  obtain ⟨f1, hA, _, hB⟩ := H.focus i hi
  obtain ⟨w', hrun, hM, r2⟩ := hA.2.del hm.k hm.u (RdD.int hw) ty
  refine o_val (w' := w') (v := .tuple #[]) rfl rfl ?_ (hn w' (by rw [h2]; exact hB w' _ f1 (Step.grown r2 fun b' hb' => by cases hb'; exact (hA.1 _).2 rfl) ⟨hA.1, hM⟩ fun b hb => .inl hb))
  simp [execOp, resolve, invoke, builtin, hx, hy, hrun]
end
theorem nth_take_flat {α : Type} [Enc α] {F : α → List Int} {xs : List α} {i : Nat} (h : i < xs.length) : (xs.take i).flatMap F ++ F (nth xs i) = (xs.take (i + 1)).flatMap F := by
  rw [← takeN h, List.flatMap_append]; simp
theorem take_flat_le {α : Type} {F : α → List Int} (xs : List α) (i : Nat) : ((xs.take i).flatMap F).length ≤ (xs.flatMap F).length := by
  conv => rhs; rw [← List.take_append_drop i xs, List.flatMap_append, List.length_append]
  omega
theorem uses_spec (e : SsaEnd) (hb : (usesE e).length ≤ 1000000) (hw : e.fWays.xs.length ≤ 100000) : Spec Try.prog 29 [.agg (Enc.enc e).toArray] [] (fun ok w => RdD ok w e) fun r L' => ∃ A c, r = .slice A (usesE e).length c ∧ L' = [own 3 A (usesE e).length c (usesE e)] := by
  refine spec_of Try.func29 rfl rfl fun w0 f0 hR => ?_
  (repeat' (first | refine s_move ?_ | refine s_assign ?_ | refine s_nil ?_ | (refine k_C ?_; first | refine s_seq ?_ | refine s_region ?_ | refine s_skip ?_ | refine s_block ?_ | (refine s_ifn rfl ?_ ?_ <;> intro hc <;> try (exfalso; omega))) | (refine k_E ?_; refine e_seq ?_) | (refine k_load ?_; refine s_ldB rfl rfl ?_) | (refine k_bin ?_; refine s_neq rfl rfl ?_) | (refine k_fld ?_; refine s_fldB rfl ?_) | (refine k_call ?_; refine s_len rfl ?_) | (refine s_box _ rfl ?_; intro b) | (refine s_app1N _ (fun _ => rfl) rfl (by decide) ?_; intro v A c)))
  · obtain ⟨b1, rfl⟩ : ∃ q, q = b := ⟨_, rfl⟩
    have hpre : usesE e = [e.fVal] ++ e.fWays.xs.flatMap (·.fArgs.xs) := by unfold usesE; rw [if_pos hc]
    have hle : ∀ i, ([e.fVal] ++ (e.fWays.xs.take i).flatMap (·.fArgs.xs)).length ≤ 1000000 := fun i => by
      have h1 := take_flat_le (F := fun w : SsaEdge => w.fArgs.xs) e.fWays.xs i
      have h2 := congrArg List.length hpre
      rw [List.length_append] at h2 ⊢
      omega
    refine s_loop (σ := Nat × Option Addr × Nat) (fun q => [(1, .pointer (some ⟨b1, 0, none⟩)), (3, .slice q.2.1 ([e.fVal] ++ (e.fWays.xs.take q.1).flatMap (·.fArgs.xs)).length q.2.2), (15, .slice e.fWays.A e.fWays.xs.length e.fWays.c), (16, .int .i64 e.fWays.xs.length), (17, .int .i64 (q.1 : Nat))])
      (fun q => [own 3 q.2.1 ([e.fVal] ++ (e.fWays.xs.take q.1).flatMap (·.fArgs.xs)).length q.2.2 ([e.fVal] ++ (e.fWays.xs.take q.1).flatMap (·.fArgs.xs)), var 29 b1 e])
      (fun q => q.1 ≤ e.fWays.xs.length) (fun q => e.fWays.xs.length - q.1) (0, A, c) (by repeat (first | exact trivial | refine ⟨rfl, ?_⟩)) (Nat.zero_le _) PSub.refl ?_
    rintro g ⟨i, A, c⟩ hi
    dsimp only at hi ⊢
    (repeat' (first | refine s_nil ?_ | (refine k_C ?_; first | refine s_seq ?_ | refine s_region ?_) | (refine k_E ?_; refine e_seq ?_) | (refine k_bin ?_; refine s_lss rfl rfl ?_)))
    (first | (refine k_C ?_; (refine s_ifd rfl ?_ ?_ <;> intro hc <;> try (exfalso; omega))))
    · have hin : i < e.fWays.xs.length := by omega
      have e1 : ([e.fVal] ++ (e.fWays.xs.take i).flatMap (·.fArgs.xs)) ++ (nth e.fWays.xs i).fArgs.xs = [e.fVal] ++ (e.fWays.xs.take (i + 1)).flatMap (·.fArgs.xs) := by rw [List.append_assoc, nth_take_flat (F := fun w : SsaEdge => w.fArgs.xs) hin]
      have h1 := hle (i + 1)
      rw [← e1, List.length_append] at h1
      generalize hl : ([e.fVal] ++ (e.fWays.xs.take i).flatMap (·.fArgs.xs)) = pp at h1 e1 ⊢
      (repeat' (first | refine s_move ?_ | refine s_assign ?_ | refine s_nil ?_ | (refine k_C ?_; first | refine s_seq ?_ | refine s_region ?_ | refine s_skip ?_ | refine s_block ?_) | (refine k_E ?_; first | refine e_seq ?_ | refine e_bk ?_) | (refine k_load ?_; first | refine s_ldB rfl rfl ?_ | refine s_ldSA rfl rfl om rfl ?_) | (refine k_bin ?_; refine s_add1 rfl rfl om ?_) | (refine k_fld ?_; refine s_fldB rfl ?_) | (refine k_idx ?_; refine s_idxS rfl rfl om ?_) | (refine k_store ?_; refine s_stW _ rfl rfl ?_) | (refine k_call ?_; (refine s_appS rfl rfl om ?_; intro A c)) | (refine s_alloc ?_; intro b)))
      refine e_lp (i + 1, A, c) (by refine ⟨rfl, ?_, rfl, rfl, rfl, trivial⟩; rw [← e1, List.length_append]; rfl) (by show i + 1 ≤ _; omega) (by show _ - _ < _ - _; omega) (PSub.take [1, 1] ?_)
      show [_, _] = [_, _]
      rw [← e1, List.length_append]
    · have hiE : i = e.fWays.xs.length := by omega
      subst hiE
      rw [List.take_length, ← hpre]
      (repeat' (first | refine s_move ?_ | refine s_assign ?_ | refine s_nil ?_ | (refine k_C ?_; first | refine s_seq ?_ | refine s_region ?_ | refine s_exit ?_ | refine s_ret ?_) | (refine k_E ?_; first | refine e_seq ?_ | refine e_seq_exit ?_ | refine e_bk_exit ?_ | refine e_lp_exit ?_)))
      exact e_done rfl rfl _ (PSub.take [0] rfl) ⟨A, c, rfl, rfl⟩
  · obtain ⟨b1, rfl⟩ : ∃ q, q = b := ⟨_, rfl⟩
    refine s_sub (PSub.nilOwn (α := Int) 3) ?_
    have hpre : usesE e = ([] : List Int) ++ e.fWays.xs.flatMap (·.fArgs.xs) := by unfold usesE; rw [if_neg (fun h => h hc)]
    have hle : ∀ i, (([] : List Int) ++ (e.fWays.xs.take i).flatMap (·.fArgs.xs)).length ≤ 1000000 := fun i => by
      have h1 := take_flat_le (F := fun w : SsaEdge => w.fArgs.xs) e.fWays.xs i
      have h2 := congrArg List.length hpre
      rw [List.length_append] at h2 ⊢
      omega
    refine s_loop (σ := Nat × Option Addr × Nat) (fun q => [(1, .pointer (some ⟨b1, 0, none⟩)), (3, .slice q.2.1 (([] : List Int) ++ (e.fWays.xs.take q.1).flatMap (·.fArgs.xs)).length q.2.2), (15, .slice e.fWays.A e.fWays.xs.length e.fWays.c), (16, .int .i64 e.fWays.xs.length), (17, .int .i64 (q.1 : Nat))])
      (fun q => [own 3 q.2.1 (([] : List Int) ++ (e.fWays.xs.take q.1).flatMap (·.fArgs.xs)).length q.2.2 (([] : List Int) ++ (e.fWays.xs.take q.1).flatMap (·.fArgs.xs)), var 29 b1 e])
      (fun q => q.1 ≤ e.fWays.xs.length) (fun q => e.fWays.xs.length - q.1) (0, none, 0) (by repeat (first | exact trivial | refine ⟨rfl, ?_⟩)) (Nat.zero_le _) PSub.refl ?_
    rintro g ⟨i, A, c⟩ hi
    dsimp only at hi ⊢
    (repeat' (first | refine s_nil ?_ | (refine k_C ?_; first | refine s_seq ?_ | refine s_region ?_) | (refine k_E ?_; refine e_seq ?_) | (refine k_bin ?_; refine s_lss rfl rfl ?_)))
    (first | (refine k_C ?_; (refine s_ifd rfl ?_ ?_ <;> intro hc <;> try (exfalso; omega))))
    · have hin : i < e.fWays.xs.length := by omega
      have e1 : (([] : List Int) ++ (e.fWays.xs.take i).flatMap (·.fArgs.xs)) ++ (nth e.fWays.xs i).fArgs.xs = ([] : List Int) ++ (e.fWays.xs.take (i + 1)).flatMap (·.fArgs.xs) := by rw [List.append_assoc, nth_take_flat (F := fun w : SsaEdge => w.fArgs.xs) hin]
      have h1 := hle (i + 1)
      rw [← e1, List.length_append] at h1
      generalize hl : (([] : List Int) ++ (e.fWays.xs.take i).flatMap (·.fArgs.xs)) = pp at h1 e1 ⊢
      (repeat' (first | refine s_move ?_ | refine s_assign ?_ | refine s_nil ?_ | (refine k_C ?_; first | refine s_seq ?_ | refine s_region ?_ | refine s_skip ?_ | refine s_block ?_) | (refine k_E ?_; first | refine e_seq ?_ | refine e_bk ?_) | (refine k_load ?_; first | refine s_ldB rfl rfl ?_ | refine s_ldSA rfl rfl om rfl ?_) | (refine k_bin ?_; refine s_add1 rfl rfl om ?_) | (refine k_fld ?_; refine s_fldB rfl ?_) | (refine k_idx ?_; refine s_idxS rfl rfl om ?_) | (refine k_store ?_; refine s_stW _ rfl rfl ?_) | (refine k_call ?_; (refine s_appS rfl rfl om ?_; intro A c)) | (refine s_alloc ?_; intro b)))
      refine e_lp (i + 1, A, c) (by refine ⟨rfl, ?_, rfl, rfl, rfl, trivial⟩; rw [← e1, List.length_append]; rfl) (by show i + 1 ≤ _; omega) (by show _ - _ < _ - _; omega) (PSub.take [1, 1] ?_)
      show [_, _] = [_, _]
      rw [← e1, List.length_append]
    · have hiE : i = e.fWays.xs.length := by omega
      subst hiE
      rw [List.take_length, ← hpre]
      (repeat' (first | refine s_move ?_ | refine s_assign ?_ | refine s_nil ?_ | (refine k_C ?_; first | refine s_seq ?_ | refine s_region ?_ | refine s_exit ?_ | refine s_ret ?_) | (refine k_E ?_; first | refine e_seq ?_ | refine e_seq_exit ?_ | refine e_bk_exit ?_ | refine e_lp_exit ?_)))
      exact e_done rfl rfl _ (PSub.take [0] rfl) ⟨A, c, rfl, rfl⟩

def stepI (i : SsaIns) (p : Int → Bool) : Int → Bool := addL (fun k => p k && !decide (k = i.fDst)) i.fArgs.xs
/-- What is used later ahead of instruction k (as many as there are: the end), by what is behind the block. -/
def liveB (b : SsaBlock) (out : Int → Bool) (k : Nat) : Int → Bool := (b.fIns.xs.drop k).foldr stepI (addL out (usesE b.fEnd))
def backP (b : SsaBlock) (out : Int → Bool) : Int → Bool := liveB b out 0
theorem liveB_end {b : SsaBlock} {out : Int → Bool} : liveB b out b.fIns.xs.length = addL out (usesE b.fEnd) := by unfold liveB; rw [List.drop_length]; rfl
theorem liveB_step {b : SsaBlock} {out : Int → Bool} {k : Nat} (h : k < b.fIns.xs.length) : liveB b out k = stepI (nth b.fIns.xs k) (liveB b out (k + 1)) := by
  unfold liveB; rw [List.drop_eq_getElem_cons h, ← nth_get h]; rfl
structure OkB (b : SsaBlock) : Prop where
  p : b.fParams.xs.length ≤ 1000
  i : b.fIns.xs.length ≤ 1000
  a : ∀ m, m < b.fIns.xs.length → (nth b.fIns.xs m).fArgs.xs.length ≤ 1000
  w : b.fEnd.fWays.xs.length ≤ 1000
  u : (usesE b.fEnd).length ≤ 1000000
def RdPs (v : Option Nat) (N : Nat) (p : Int → Bool) : FP → World → Prop := fun ok w => RdM EB 3 ok w v N (setP p)
theorem RdPs.lasts (v : Option Nat) (N : Nat) (p : Int → Bool) : Lasts (RdPs v N p) := fun _ _ _ _ h hk => h.loc hk
instance : FnT Try.prog 73 := ⟨.func #[3, 58] #[] false, by kernel_rfl, trivial⟩
/-- What becomes of what is told each place, from the last one. -/
def atS {σ : Type} (step : σ → Nat → (Int → Bool) → σ) (b : SsaBlock) (out : Int → Bool) (s0 : σ) (r : Nat) : σ := (List.range' r (b.fIns.xs.length - r)).foldr (fun k s => step s k (liveB b out (k + 1))) s0
theorem atS_end {σ : Type} {step : σ → Nat → (Int → Bool) → σ} {b : SsaBlock} {out : Int → Bool} {s0 : σ} : atS step b out s0 b.fIns.xs.length = s0 := by unfold atS; rw [Nat.sub_self]; rfl
theorem atS_step {σ : Type} {step : σ → Nat → (Int → Bool) → σ} {b : SsaBlock} {out : Int → Bool} {s0 : σ} {r : Nat} (h : r < b.fIns.xs.length) : atS step b out s0 r = step (atS step b out s0 (r + 1)) r (liveB b out (r + 1)) := by
  unfold atS
  rw [show b.fIns.xs.length - r = (b.fIns.xs.length - (r + 1)) + 1 by omega, List.range'_succ]; rfl
set_option maxHeartbeats 4000000 in
theorem backN_spec (bl : SsaBlock) (hb : OkB bl) (v : Option Nat) (N : Nat) (p : Int → Bool) (hN : N ≤ 100000000) : Spec Try.prog 20 [.agg (Enc.enc bl).toArray, .map v, .nilFunc] [] (fun ok w => RdPs v N p ok w ∧ RdD ok w bl) fun r L' => ∃ q N', r = .map (some q) ∧ N' ≤ N + 2001000 ∧ L' = [mp EB 3 q N' (setP (backP bl p))] := by
  refine spec_of Try.func20 rfl rfl fun w0 f0 ⟨hm, hR⟩ => ?_
  haveI : RdMp EB 3 (okOf w0 f0) w0 v N (setP p) := ⟨hm⟩
  have hbi := hb.i
  (repeat' (first | refine s_move ?_ | refine s_assign ?_ | refine s_nil ?_ | (refine k_C ?_; first | refine s_seq ?_ | refine s_region ?_) | (refine k_E ?_; refine e_seq ?_) | (refine s_box _ rfl ?_; intro b) | (refine s_mkmapB ?_; intro b)))
  rename Nat => m
  obtain ⟨b3, rfl⟩ : ∃ q, q = b := ⟨_, rfl⟩
  refine s_rangeS rfl ?_
  intro es clock cnt r hcnt hM
  (repeat' (first | refine s_nil ?_ | (refine k_C ?_; refine s_block ?_) | (refine k_E ?_; refine e_seq ?_)))
  refine s_loop (σ := (Int → Bool) × Nat × Nat) (fun s => [(3, .pointer (some ⟨b3, 0, none⟩)), (2, .nilFunc), (7, .map (some m)), (16, .pointer (some ⟨r, 0, none⟩))])
    (fun s => [itr Try.prog 3 4 v r es clock s.1 s.2.1, mp EB 3 m s.2.2 (setP (goneP p s.1)), var 31 b3 bl]) (fun s => s.2.2 + s.2.1 ≤ N) (fun s => s.2.1) ((fun k => (setP p k).isSome), cnt, 0) (by repeat (first | exact trivial | refine ⟨rfl, ?_⟩)) (by simpa using hcnt) (PSub.eq ?_) ?_
  · simp only [← goneP_start]
  rintro f ⟨todo, c1, n1⟩ hJ
  dsimp only at hJ
  (repeat' (first | (refine k_C ?_; first | refine s_seq ?_ | refine s_region ?_)))
  refine s_nextS U_3 hM rfl (fun hf => ?_) (fun k x cnt' hk hg ht hF hlt => ?_)
  rotate_left
  · haveI : RdD (okOf w0 f0) w0 k := ⟨hk⟩
    dsimp only at hlt ⊢
    (repeat' (first | refine s_nil ?_ | (refine k_C ?_; first | refine s_seq ?_ | refine s_region ?_ | refine s_skip ?_ | refine s_block ?_ | refine s_ift rfl ?_) | (refine k_E ?_; refine e_seq ?_) | refine s_extract rfl rfl ?_))
    refine s_entryS hM rfl ?_
    (repeat' (first | refine s_move ?_ | refine s_assign ?_ | refine s_nil ?_ | (refine k_C ?_; refine s_region ?_) | (refine k_E ?_; first | refine e_seq ?_ | refine e_bk ?_) | refine s_putW (yv := true) rfl rfl rfl trivial om ?_ | refine s_extract rfl rfl ?_))
    refine e_lp (fun j => todo j && j != k, cnt', n1 + 1) (by repeat (first | exact trivial | refine ⟨rfl, ?_⟩)) (by show n1 + 1 + cnt' ≤ N; omega) hlt (PSub.eq ?_)
    rw [goneP_step hF]
  dsimp only
  (repeat' (first | refine s_nil ?_ | (refine k_C ?_; first | refine s_seq ?_ | refine s_region ?_ | refine s_exit ?_ | refine s_iff rfl ?_) | (refine k_E ?_; first | refine e_seq ?_ | refine e_seq_exit ?_ | refine e_bk_exit ?_ | refine e_lp_exit ?_) | (refine k_load ?_; refine s_ldBA rfl (by decide) ?_) | (refine k_fld ?_; refine s_fldB rfl ?_) | refine s_extract rfl rfl ?_))
  rw [goneP_end hf]
  refine s_call0 (uses_spec bl.fEnd hb.u (by have := hb.w; omega)) rfl (fun w1 H => H.rdD (by infer_instance)) ?_
  rintro r' L' ⟨A, c, rfl, rfl⟩
  (repeat' (first | refine s_move ?_ | refine s_nil ?_ | (refine k_C ?_; refine s_block ?_) | (refine k_E ?_; refine e_seq ?_) | (refine k_call ?_; refine s_len rfl ?_)))
  have hul := hb.u
  refine s_loop (σ := Nat) (fun i => [(3, .pointer (some ⟨b3, 0, none⟩)), (2, .nilFunc), (7, .map (some m)), (25, .slice A (usesE bl.fEnd).length c), (26, .int .i64 (usesE bl.fEnd).length), (27, .int .i64 i)])
    (fun i => [own 3 A (usesE bl.fEnd).length c (usesE bl.fEnd), mp EB 3 m (n1 + i) (setP (addL p ((usesE bl.fEnd).take i))), var 31 b3 bl]) (fun i => i ≤ (usesE bl.fEnd).length) (fun i => (usesE bl.fEnd).length - i) 0 (by repeat (first | exact trivial | refine ⟨rfl, ?_⟩)) (Nat.zero_le _) (PSub.eq (by simp [addL_nil])) ?_
  intro f i hi
  (repeat' (first | refine s_nil ?_ | (refine k_C ?_; first | refine s_seq ?_ | refine s_region ?_) | (refine k_E ?_; refine e_seq ?_) | (refine k_bin ?_; refine s_lss rfl rfl ?_)))
  (first | (refine k_C ?_; (refine s_ifd rfl ?_ ?_ <;> intro hc <;> try (exfalso; omega))))
  · have hin : i < (usesE bl.fEnd).length := by omega
    haveI : RdD (okOf w0 f0) w0 (nth (usesE bl.fEnd) i) := ⟨usesE_wf (e := bl.fEnd) (ok := okOf w0 f0) (w := w0) (by infer_instance) _ (nth_mem hin)⟩
    (repeat' (first | refine s_move ?_ | refine s_assign ?_ | refine s_nil ?_ | (refine k_C ?_; first | refine s_seq ?_ | refine s_region ?_ | refine s_skip ?_ | refine s_block ?_) | (refine k_E ?_; first | refine e_seq ?_ | refine e_bk ?_) | (refine k_load ?_; refine s_ld rfl om rfl ?_) | (refine k_bin ?_; refine s_add1 rfl rfl om ?_) | (refine k_idx ?_; refine s_idx rfl rfl om ?_) | refine s_putW (yv := true) rfl rfl rfl trivial om ?_))
    refine e_lp (i + 1) (by repeat (first | exact trivial | refine ⟨rfl, ?_⟩)) (by show i + 1 ≤ _; omega) (by show _ - _ < _ - _; omega) (PSub.eq ?_)
    rw [setP_put, addL_put, takeN hin]; rfl
  have hiE : i = (usesE bl.fEnd).length := by omega
  subst hiE
  rw [List.take_length, ← liveB_end]
  (repeat' (first | refine s_assign ?_ | refine s_nil ?_ | (refine k_C ?_; first | refine s_seq ?_ | refine s_region ?_ | refine s_block ?_ | refine s_exit ?_) | (refine k_E ?_; first | refine e_seq ?_ | refine e_seq_exit ?_ | refine e_bk_exit ?_ | refine e_lp_exit ?_) | (refine k_load ?_; refine s_ldB rfl rfl ?_) | (refine k_bin ?_; refine s_sub64 rfl rfl om ?_) | (refine k_fld ?_; refine s_fldB rfl ?_) | (refine k_call ?_; refine s_len rfl ?_)))
  refine s_loop (σ := Nat × Nat) (fun s => [(3, .pointer (some ⟨b3, 0, none⟩)), (2, .nilFunc), (7, .map (some m)), (11, .int .i64 ((s.1 : Int) - 1))])
    (fun s => [mp EB 3 m s.2 (setP (liveB bl p s.1)), var 31 b3 bl])
    (fun s => s.1 ≤ bl.fIns.xs.length ∧ s.2 + 1000 * s.1 ≤ n1 + (usesE bl.fEnd).length + 1000 * bl.fIns.xs.length) (fun s => s.1) (bl.fIns.xs.length, n1 + (usesE bl.fEnd).length) (by repeat (first | exact trivial | refine ⟨rfl, ?_⟩)) ⟨Nat.le_refl _, Nat.le_refl _⟩ (PSub.take [1, 1] rfl) ?_
  rintro f ⟨q, n2⟩ ⟨hq, hn2⟩
  dsimp only at hq hn2 ⊢
  (repeat' (first | refine s_move ?_ | refine s_nil ?_ | (refine k_C ?_; first | refine s_seq ?_ | refine s_region ?_) | (refine k_E ?_; refine e_seq ?_) | (refine k_bin ?_; refine s_geq rfl rfl ?_)))
  (first | (refine k_C ?_; (refine s_ifd rfl ?_ ?_ <;> intro hc <;> try (exfalso; omega))))
  rotate_left
  · have hq0 : q = 0 := by omega
    subst hq0
    (repeat' (first | refine s_move ?_ | refine s_assign ?_ | refine s_nil ?_ | (refine k_C ?_; first | refine s_seq ?_ | refine s_region ?_ | refine s_exit ?_ | refine s_ret ?_) | (refine k_E ?_; first | refine e_seq ?_ | refine e_seq_exit ?_ | refine e_bk_exit ?_ | refine e_lp_exit ?_)))
    exact e_done rfl rfl _ (PSub.take [0] rfl) ⟨m, n2, rfl, by omega, rfl⟩
  obtain ⟨q, rfl⟩ : ∃ q', q = q' + 1 := ⟨q - 1, by omega⟩
  have hqn : q < bl.fIns.xs.length := by omega
  have hqa := hb.a q hqn
  rw [show ((q + 1 : Nat) : Int) - 1 = (q : Int) by omega]
  (repeat' (first | refine s_move ?_ | (refine k_C ?_; first | refine s_seq ?_ | refine s_region ?_ | refine s_skip ?_ | refine s_block ?_) | (refine k_E ?_; refine e_seq ?_)))
  refine s_fnn rfl (.inl rfl) rfl ?_
  (repeat' (first | refine s_move ?_ | refine s_nil ?_ | (refine k_C ?_; first | refine s_seq ?_ | refine s_region ?_ | refine s_skip ?_ | refine s_iff rfl ?_) | (refine k_E ?_; refine e_seq ?_) | (refine k_load ?_; first | refine s_ldB rfl rfl ?_ | refine s_ldSF rfl rfl om rfl ?_) | (refine k_fld ?_; first | refine s_fld rfl ?_ | refine s_fldB rfl ?_) | (refine k_idx ?_; refine s_idxS rfl rfl om ?_)))
  refine s_delN rfl rfl ?_
  rw [setP_del]
  (repeat' (first | refine s_move ?_ | refine s_nil ?_ | (refine k_C ?_; first | refine s_seq ?_ | refine s_region ?_ | refine s_block ?_) | (refine k_E ?_; refine e_seq ?_) | (refine k_load ?_; first | refine s_ldB rfl rfl ?_ | refine s_ldSF rfl rfl om rfl ?_) | (refine k_fld ?_; first | refine s_fld rfl ?_ | refine s_fldB rfl ?_) | (refine k_idx ?_; refine s_idxS rfl rfl om ?_) | (refine k_call ?_; refine s_len rfl ?_)))
  refine s_loop (σ := Nat) (fun i => [(3, .pointer (some ⟨b3, 0, none⟩)), (2, .nilFunc), (7, .map (some m)), (11, .int .i64 (q : Int)), (60, .slice (nth bl.fIns.xs q).fArgs.A (nth bl.fIns.xs q).fArgs.xs.length (nth bl.fIns.xs q).fArgs.c), (61, .int .i64 (nth bl.fIns.xs q).fArgs.xs.length), (62, .int .i64 i)])
    (fun i => [mp EB 3 m (n2 + i) (setP (addL (fun j => liveB bl p (q + 1) j && !decide (j = (nth bl.fIns.xs q).fDst)) ((nth bl.fIns.xs q).fArgs.xs.take i))), var 31 b3 bl]) (fun i => i ≤ (nth bl.fIns.xs q).fArgs.xs.length) (fun i => (nth bl.fIns.xs q).fArgs.xs.length - i) 0 (by repeat (first | exact trivial | refine ⟨rfl, ?_⟩)) (Nat.zero_le _) (PSub.eq (by simp only [List.take_zero, addL_nil, Nat.add_zero])) ?_
  intro f i hi
  (repeat' (first | refine s_nil ?_ | (refine k_C ?_; first | refine s_seq ?_ | refine s_region ?_) | (refine k_E ?_; refine e_seq ?_) | (refine k_bin ?_; refine s_lss rfl rfl ?_)))
  (first | (refine k_C ?_; (refine s_ifd rfl ?_ ?_ <;> intro hc <;> try (exfalso; omega))))
  · have hin : i < (nth bl.fIns.xs q).fArgs.xs.length := by omega
    (repeat' (first | refine s_move ?_ | refine s_assign ?_ | refine s_nil ?_ | (refine k_C ?_; first | refine s_seq ?_ | refine s_region ?_ | refine s_skip ?_ | refine s_block ?_) | (refine k_E ?_; first | refine e_seq ?_ | refine e_bk ?_) | (refine k_load ?_; refine s_ldS rfl rfl om rfl ?_) | (refine k_bin ?_; refine s_add1 rfl rfl om ?_) | (refine k_idx ?_; refine s_idxS rfl rfl om ?_) | refine s_putW (yv := true) rfl rfl rfl trivial om ?_))
    refine e_lp (i + 1) (by repeat (first | exact trivial | refine ⟨rfl, ?_⟩)) (by show i + 1 ≤ _; omega) (by show _ - _ < _ - _; omega) (PSub.eq ?_)
    rw [setP_put, addL_put, takeN hin]; rfl
  have hiE : i = (nth bl.fIns.xs q).fArgs.xs.length := by omega
  subst hiE
  rw [List.take_length]
  (repeat' (first | refine s_move ?_ | refine s_assign ?_ | refine s_nil ?_ | (refine k_C ?_; first | refine s_region ?_ | refine s_exit ?_) | (refine k_E ?_; first | refine e_seq ?_ | refine e_seq_exit ?_ | refine e_bk_exit ?_ | refine e_bk ?_ | refine e_lp_exit ?_) | (refine k_bin ?_; refine s_sub64 rfl rfl om ?_)))
  refine e_lp (q, n2 + (nth bl.fIns.xs q).fArgs.xs.length) (by repeat (first | exact trivial | refine ⟨rfl, ?_⟩)) ⟨by show q ≤ _; omega, by show n2 + _ + 1000 * q ≤ _; omega⟩ (by show q < q + 1; omega) (PSub.eq ?_)
  rw [liveB_step hqn]; rfl
set_option maxHeartbeats 4000000 in
theorem backF_spec (bl : SsaBlock) (hb : OkB bl) (v : Option Nat) (N : Nat) (p : Int → Bool) (hN : N ≤ 100000000) {σ : Type} (I : σ → HP) (step : σ → Nat → (Int → Bool) → σ) (s0 : σ) (g : FuncId) (cap : List Value) (Rd : FP → World → Prop) (hL : Lasts Rd) [IsFc Try.prog g]
    (hat : ∀ (k q n : Nat), k < bl.fIns.xs.length → n ≤ N + 2001000 → Spec Try.prog g ([.int .i64 (k : Nat), .map (some q)] ++ cap) [I (atS step bl p s0 (k + 1))] (fun ok w => Rd ok w ∧ RdPs (some q) n (liveB bl p (k + 1)) ok w) fun r L' => L' = [I (step (atS step bl p s0 (k + 1)) k (liveB bl p (k + 1)))]) :
    Spec Try.prog 20 [.agg (Enc.enc bl).toArray, .map v, .func (.func g) #[] cap.toArray] [I s0] (fun ok w => Rd ok w ∧ RdPs v N p ok w ∧ RdD ok w bl) fun r L' => ∃ q N', r = .map (some q) ∧ N' ≤ N + 2001000 ∧ L' = [mp EB 3 q N' (setP (backP bl p)), I (atS step bl p s0 0)] := by
  refine spec_of Try.func20 rfl rfl fun w0 f0 ⟨hRd, hm, hR⟩ => ?_
  haveI : RdMp EB 3 (okOf w0 f0) w0 v N (setP p) := ⟨hm⟩
  have hbi := hb.i
  (repeat' (first | refine s_move ?_ | refine s_assign ?_ | refine s_nil ?_ | (refine k_C ?_; first | refine s_seq ?_ | refine s_region ?_) | (refine k_E ?_; refine e_seq ?_) | (refine s_box _ rfl ?_; intro b) | (refine s_mkmapB ?_; intro b)))
  rename Nat => m
  obtain ⟨b3, rfl⟩ : ∃ q, q = b := ⟨_, rfl⟩
  refine s_rangeS rfl ?_
  intro es clock cnt r hcnt hM
  (repeat' (first | refine s_nil ?_ | (refine k_C ?_; refine s_block ?_) | (refine k_E ?_; refine e_seq ?_)))
  refine s_loop (σ := (Int → Bool) × Nat × Nat) (fun s => [(3, .pointer (some ⟨b3, 0, none⟩)), (2, .func (.func g) #[] cap.toArray), (7, .map (some m)), (16, .pointer (some ⟨r, 0, none⟩))])
    (fun s => [itr Try.prog 3 4 v r es clock s.1 s.2.1, mp EB 3 m s.2.2 (setP (goneP p s.1)), var 31 b3 bl, I (s0)]) (fun s => s.2.2 + s.2.1 ≤ N) (fun s => s.2.1) ((fun k => (setP p k).isSome), cnt, 0) (by repeat (first | exact trivial | refine ⟨rfl, ?_⟩)) (by simpa using hcnt) (PSub.eq ?_) ?_
  · simp only [← goneP_start]
  rintro f ⟨todo, c1, n1⟩ hJ
  dsimp only at hJ
  (repeat' (first | (refine k_C ?_; first | refine s_seq ?_ | refine s_region ?_)))
  refine s_nextS U_3 hM rfl (fun hf => ?_) (fun k x cnt' hk hg ht hF hlt => ?_)
  rotate_left
  · haveI : RdD (okOf w0 f0) w0 k := ⟨hk⟩
    dsimp only at hlt ⊢
    (repeat' (first | refine s_nil ?_ | (refine k_C ?_; first | refine s_seq ?_ | refine s_region ?_ | refine s_skip ?_ | refine s_block ?_ | refine s_ift rfl ?_) | (refine k_E ?_; refine e_seq ?_) | refine s_extract rfl rfl ?_))
    refine s_entryS hM rfl ?_
    (repeat' (first | refine s_move ?_ | refine s_assign ?_ | refine s_nil ?_ | (refine k_C ?_; refine s_region ?_) | (refine k_E ?_; first | refine e_seq ?_ | refine e_bk ?_) | refine s_putW (yv := true) rfl rfl rfl trivial om ?_ | refine s_extract rfl rfl ?_))
    refine e_lp (fun j => todo j && j != k, cnt', n1 + 1) (by repeat (first | exact trivial | refine ⟨rfl, ?_⟩)) (by show n1 + 1 + cnt' ≤ N; omega) hlt (PSub.eq ?_)
    rw [goneP_step hF]
  dsimp only
  (repeat' (first | refine s_nil ?_ | (refine k_C ?_; first | refine s_seq ?_ | refine s_region ?_ | refine s_exit ?_ | refine s_iff rfl ?_) | (refine k_E ?_; first | refine e_seq ?_ | refine e_seq_exit ?_ | refine e_bk_exit ?_ | refine e_lp_exit ?_) | (refine k_load ?_; refine s_ldBA rfl (by decide) ?_) | (refine k_fld ?_; refine s_fldB rfl ?_) | refine s_extract rfl rfl ?_))
  rw [goneP_end hf]
  refine s_call0 (uses_spec bl.fEnd hb.u (by have := hb.w; omega)) rfl (fun w1 H => H.rdD (by infer_instance)) ?_
  rintro r' L' ⟨A, c, rfl, rfl⟩
  (repeat' (first | refine s_move ?_ | refine s_nil ?_ | (refine k_C ?_; refine s_block ?_) | (refine k_E ?_; refine e_seq ?_) | (refine k_call ?_; refine s_len rfl ?_)))
  have hul := hb.u
  refine s_loop (σ := Nat) (fun i => [(3, .pointer (some ⟨b3, 0, none⟩)), (2, .func (.func g) #[] cap.toArray), (7, .map (some m)), (25, .slice A (usesE bl.fEnd).length c), (26, .int .i64 (usesE bl.fEnd).length), (27, .int .i64 i)])
    (fun i => [own 3 A (usesE bl.fEnd).length c (usesE bl.fEnd), mp EB 3 m (n1 + i) (setP (addL p ((usesE bl.fEnd).take i))), var 31 b3 bl, I (s0)]) (fun i => i ≤ (usesE bl.fEnd).length) (fun i => (usesE bl.fEnd).length - i) 0 (by repeat (first | exact trivial | refine ⟨rfl, ?_⟩)) (Nat.zero_le _) (PSub.eq (by simp [addL_nil])) ?_
  intro f i hi
  (repeat' (first | refine s_nil ?_ | (refine k_C ?_; first | refine s_seq ?_ | refine s_region ?_) | (refine k_E ?_; refine e_seq ?_) | (refine k_bin ?_; refine s_lss rfl rfl ?_)))
  (first | (refine k_C ?_; (refine s_ifd rfl ?_ ?_ <;> intro hc <;> try (exfalso; omega))))
  · have hin : i < (usesE bl.fEnd).length := by omega
    haveI : RdD (okOf w0 f0) w0 (nth (usesE bl.fEnd) i) := ⟨usesE_wf (e := bl.fEnd) (ok := okOf w0 f0) (w := w0) (by infer_instance) _ (nth_mem hin)⟩
    (repeat' (first | refine s_move ?_ | refine s_assign ?_ | refine s_nil ?_ | (refine k_C ?_; first | refine s_seq ?_ | refine s_region ?_ | refine s_skip ?_ | refine s_block ?_) | (refine k_E ?_; first | refine e_seq ?_ | refine e_bk ?_) | (refine k_load ?_; refine s_ld rfl om rfl ?_) | (refine k_bin ?_; refine s_add1 rfl rfl om ?_) | (refine k_idx ?_; refine s_idx rfl rfl om ?_) | refine s_putW (yv := true) rfl rfl rfl trivial om ?_))
    refine e_lp (i + 1) (by repeat (first | exact trivial | refine ⟨rfl, ?_⟩)) (by show i + 1 ≤ _; omega) (by show _ - _ < _ - _; omega) (PSub.eq ?_)
    rw [setP_put, addL_put, takeN hin]; rfl
  have hiE : i = (usesE bl.fEnd).length := by omega
  subst hiE
  rw [List.take_length, ← liveB_end]
  (repeat' (first | refine s_assign ?_ | refine s_nil ?_ | (refine k_C ?_; first | refine s_seq ?_ | refine s_region ?_ | refine s_block ?_ | refine s_exit ?_) | (refine k_E ?_; first | refine e_seq ?_ | refine e_seq_exit ?_ | refine e_bk_exit ?_ | refine e_lp_exit ?_) | (refine k_load ?_; refine s_ldB rfl rfl ?_) | (refine k_bin ?_; refine s_sub64 rfl rfl om ?_) | (refine k_fld ?_; refine s_fldB rfl ?_) | (refine k_call ?_; refine s_len rfl ?_)))
  refine s_loop (σ := Nat × Nat) (fun s => [(3, .pointer (some ⟨b3, 0, none⟩)), (2, .func (.func g) #[] cap.toArray), (7, .map (some m)), (11, .int .i64 ((s.1 : Int) - 1))])
    (fun s => [mp EB 3 m s.2 (setP (liveB bl p s.1)), var 31 b3 bl, I (atS step bl p s0 s.1)])
    (fun s => s.1 ≤ bl.fIns.xs.length ∧ s.2 + 1000 * s.1 ≤ n1 + (usesE bl.fEnd).length + 1000 * bl.fIns.xs.length) (fun s => s.1) (bl.fIns.xs.length, n1 + (usesE bl.fEnd).length) (by repeat (first | exact trivial | refine ⟨rfl, ?_⟩)) ⟨Nat.le_refl _, Nat.le_refl _⟩ (PSub.take [1, 1, 1] (by simp only [pickL, List.eraseIdx, List.getElem?_cons_zero, List.getElem?_cons_succ, atS_end])) ?_
  rintro f ⟨q, n2⟩ ⟨hq, hn2⟩
  dsimp only at hq hn2 ⊢
  (repeat' (first | refine s_move ?_ | refine s_nil ?_ | (refine k_C ?_; first | refine s_seq ?_ | refine s_region ?_) | (refine k_E ?_; refine e_seq ?_) | (refine k_bin ?_; refine s_geq rfl rfl ?_)))
  (first | (refine k_C ?_; (refine s_ifd rfl ?_ ?_ <;> intro hc <;> try (exfalso; omega))))
  rotate_left
  · have hq0 : q = 0 := by omega
    subst hq0
    (repeat' (first | refine s_move ?_ | refine s_assign ?_ | refine s_nil ?_ | (refine k_C ?_; first | refine s_seq ?_ | refine s_region ?_ | refine s_exit ?_ | refine s_ret ?_) | (refine k_E ?_; first | refine e_seq ?_ | refine e_seq_exit ?_ | refine e_bk_exit ?_ | refine e_lp_exit ?_)))
    exact e_done rfl rfl _ (PSub.take [0, 1] rfl) ⟨m, n2, rfl, by omega, rfl⟩
  obtain ⟨q, rfl⟩ : ∃ q', q = q' + 1 := ⟨q - 1, by omega⟩
  have hqn : q < bl.fIns.xs.length := by omega
  have hqa := hb.a q hqn
  rw [show ((q + 1 : Nat) : Int) - 1 = (q : Int) by omega]
  (repeat' (first | refine s_move ?_ | (refine k_C ?_; first | refine s_seq ?_ | refine s_region ?_ | refine s_skip ?_ | refine s_block ?_) | (refine k_E ?_; refine e_seq ?_)))
  refine s_fnn rfl (.inr ⟨_, _, _, rfl⟩) rfl ?_
  (repeat' (first | refine s_move ?_ | refine s_nil ?_ | (refine k_C ?_; first | refine s_region ?_ | refine s_ift rfl ?_) | (refine k_E ?_; refine e_seq ?_)))
  refine s_callV (L2 := [mp EB 3 m n2 (setP (liveB bl p (q + 1))), var 31 b3 bl]) [2] (captured := cap) rfl (hat q m n2 hqn (by omega)) rfl rfl (fun w1 f1 C => ⟨hL.ctx hRd C, C.map m⟩) ?_
  rintro r'' L' rfl
  rw [← atS_step (step := step) (s0 := s0) (out := p) hqn]
  (repeat' (first | refine s_move ?_ | refine s_nil ?_ | (refine k_C ?_; first | refine s_seq ?_ | refine s_region ?_) | (refine k_E ?_; refine e_seq ?_) | (refine k_load ?_; first | refine s_ldB rfl rfl ?_ | refine s_ldSF rfl rfl om rfl ?_) | (refine k_fld ?_; first | refine s_fld rfl ?_ | refine s_fldB rfl ?_) | (refine k_idx ?_; refine s_idxS rfl rfl om ?_)))
  refine s_delN rfl rfl ?_
  rw [setP_del]
  (repeat' (first | refine s_move ?_ | refine s_nil ?_ | (refine k_C ?_; first | refine s_seq ?_ | refine s_region ?_ | refine s_block ?_) | (refine k_E ?_; refine e_seq ?_) | (refine k_load ?_; first | refine s_ldB rfl rfl ?_ | refine s_ldSF rfl rfl om rfl ?_) | (refine k_fld ?_; first | refine s_fld rfl ?_ | refine s_fldB rfl ?_) | (refine k_idx ?_; refine s_idxS rfl rfl om ?_) | (refine k_call ?_; refine s_len rfl ?_)))
  refine s_loop (σ := Nat) (fun i => [(3, .pointer (some ⟨b3, 0, none⟩)), (2, .func (.func g) #[] cap.toArray), (7, .map (some m)), (11, .int .i64 (q : Int)), (60, .slice (nth bl.fIns.xs q).fArgs.A (nth bl.fIns.xs q).fArgs.xs.length (nth bl.fIns.xs q).fArgs.c), (61, .int .i64 (nth bl.fIns.xs q).fArgs.xs.length), (62, .int .i64 i)])
    (fun i => [mp EB 3 m (n2 + i) (setP (addL (fun j => liveB bl p (q + 1) j && !decide (j = (nth bl.fIns.xs q).fDst)) ((nth bl.fIns.xs q).fArgs.xs.take i))), var 31 b3 bl, I (atS step bl p s0 q)]) (fun i => i ≤ (nth bl.fIns.xs q).fArgs.xs.length) (fun i => (nth bl.fIns.xs q).fArgs.xs.length - i) 0 (by repeat (first | exact trivial | refine ⟨rfl, ?_⟩)) (Nat.zero_le _) ((PSub.take (L' := [mp EB 3 m n2 (setP fun j => liveB bl p (q + 1) j && !decide (j = (nth bl.fIns.xs q).fDst)), var 31 b3 bl, I (atS step bl p s0 q)]) [1, 1, 0] rfl).trans (PSub.eq (by simp only [List.take_zero, addL_nil, Nat.add_zero]))) ?_
  intro f i hi
  (repeat' (first | refine s_nil ?_ | (refine k_C ?_; first | refine s_seq ?_ | refine s_region ?_) | (refine k_E ?_; refine e_seq ?_) | (refine k_bin ?_; refine s_lss rfl rfl ?_)))
  (first | (refine k_C ?_; (refine s_ifd rfl ?_ ?_ <;> intro hc <;> try (exfalso; omega))))
  · have hin : i < (nth bl.fIns.xs q).fArgs.xs.length := by omega
    (repeat' (first | refine s_move ?_ | refine s_assign ?_ | refine s_nil ?_ | (refine k_C ?_; first | refine s_seq ?_ | refine s_region ?_ | refine s_skip ?_ | refine s_block ?_) | (refine k_E ?_; first | refine e_seq ?_ | refine e_bk ?_) | (refine k_load ?_; refine s_ldS rfl rfl om rfl ?_) | (refine k_bin ?_; refine s_add1 rfl rfl om ?_) | (refine k_idx ?_; refine s_idxS rfl rfl om ?_) | refine s_putW (yv := true) rfl rfl rfl trivial om ?_))
    refine e_lp (i + 1) (by repeat (first | exact trivial | refine ⟨rfl, ?_⟩)) (by show i + 1 ≤ _; omega) (by show _ - _ < _ - _; omega) (PSub.eq ?_)
    rw [setP_put, addL_put, takeN hin]; rfl
  have hiE : i = (nth bl.fIns.xs q).fArgs.xs.length := by omega
  subst hiE
  rw [List.take_length]
  (repeat' (first | refine s_move ?_ | refine s_assign ?_ | refine s_nil ?_ | (refine k_C ?_; first | refine s_region ?_ | refine s_exit ?_) | (refine k_E ?_; first | refine e_seq ?_ | refine e_seq_exit ?_ | refine e_bk_exit ?_ | refine e_bk ?_ | refine e_lp_exit ?_) | (refine k_bin ?_; refine s_sub64 rfl rfl om ?_)))
  refine e_lp (q, n2 + (nth bl.fIns.xs q).fArgs.xs.length) (by repeat (first | exact trivial | refine ⟨rfl, ?_⟩)) ⟨by show q ≤ _; omega, by show n2 + _ + 1000 * q ≤ _; omega⟩ (by show q < q + 1; omega) (PSub.eq ?_)
  rw [liveB_step hqn]; rfl

theorem addL_mono {p q : Int → Bool} {l : List Int} (h : ∀ k, p k = true → q k = true) (k : Int) (hk : addL p l k = true) : addL q l k = true := by
  unfold addL at hk ⊢
  rw [Bool.or_eq_true] at hk ⊢
  exact hk.imp (h k) id
theorem stepI_mono {i : SsaIns} {p q : Int → Bool} (h : ∀ k, p k = true → q k = true) : ∀ k, stepI i p k = true → stepI i q k = true := by
  unfold stepI
  refine addL_mono fun k hk => ?_
  rw [Bool.and_eq_true] at hk ⊢
  exact ⟨h k hk.1, hk.2⟩
theorem foldI_mono {p q : Int → Bool} (h : ∀ k, p k = true → q k = true) : ∀ (is : List SsaIns) k, is.foldr stepI p k = true → is.foldr stepI q k = true
  | [], k, hk => h k hk
  | i :: is, k, hk => stepI_mono (foldI_mono h is) k hk
theorem liveB_mono {b : SsaBlock} {p q : Int → Bool} (h : ∀ k, p k = true → q k = true) (r : Nat) (k : Int) (hk : liveB b p r k = true) : liveB b q r k = true := foldI_mono (fun k hk => addL_mono h k hk) _ k hk
theorem foldI_in {p : Int → Bool} : ∀ (is : List SsaIns) k, is.foldr stepI p k = true → p k = true ∨ k ∈ is.flatMap (·.fArgs.xs)
  | [], k, hk => .inl hk
  | i :: is, k, hk => by
    have hk : stepI i (is.foldr stepI p) k = true := hk
    unfold stepI addL at hk
    rw [Bool.or_eq_true, Bool.and_eq_true, decide_eq_true_eq] at hk
    rcases hk with ⟨hk, _⟩ | hk
    · rcases foldI_in is k hk with h | h
      · exact .inl h
      · exact .inr (by rw [List.flatMap_cons]; exact List.mem_append_right _ h)
    · exact .inr (by rw [List.flatMap_cons]; exact List.mem_append_left _ hk)
def usB (b : SsaBlock) : List Int := usesE b.fEnd ++ b.fIns.xs.flatMap (·.fArgs.xs)
def usU (f : SsaFunc) : List Int := f.fBlocks.xs.flatMap usB
theorem liveB_in {b : SsaBlock} {p : Int → Bool} {r : Nat} {k : Int} (h : liveB b p r k = true) : p k = true ∨ k ∈ usB b := by
  unfold liveB at h
  rcases foldI_in _ k h with h | h
  · unfold addL at h
    rw [Bool.or_eq_true, decide_eq_true_eq] at h
    exact h.imp id fun h => List.mem_append_left _ h
  · refine .inr (List.mem_append_right _ ?_)
    rw [← List.take_append_drop r b.fIns.xs, List.flatMap_append]
    exact List.mem_append_right _ h
theorem usB_in {f : SsaFunc} {b : Nat} (hb : b < f.fBlocks.xs.length) {k : Int} (h : k ∈ usB (nth f.fBlocks.xs b)) : k ∈ usU f := List.mem_flatMap.2 ⟨_, nth_mem hb, h⟩
/-- What comes to a block's end from the next ones. -/
def Ctr (f : SsaFunc) (I : Nat → Int → Bool) (b : Nat) (k : Int) : Prop := ∃ w ∈ (nth f.fBlocks.xs b).fEnd.fWays.xs, 0 ≤ w.fTo ∧ w.fTo < f.fBlocks.xs.length ∧ I w.fTo.toNat k = true ∧ k ∉ (nth f.fBlocks.xs w.fTo.toNat).fParams.xs
def ClosedQ (f : SsaFunc) (I O : Nat → Int → Bool) : Prop := ∀ b, b < f.fBlocks.xs.length → (∀ k, Ctr f I b k → O b k = true) ∧ ∀ k, backP (nth f.fBlocks.xs b) (O b) k = true → I b k = true
structure InvQ (f : SsaFunc) (I O : Nat → Int → Bool) : Prop where
  sound : ∀ b, b < f.fBlocks.xs.length → ∀ k, O b k = true → Ctr f I b k
  low : ∀ b, b < f.fBlocks.xs.length → ∀ k, I b k = true → backP (nth f.fBlocks.xs b) (O b) k = true
  least : ∀ I' O', ClosedQ f I' O' → ∀ b, b < f.fBlocks.xs.length → (∀ k, I b k = true → I' b k = true) ∧ ∀ k, O b k = true → O' b k = true
  us : ∀ b, b < f.fBlocks.xs.length → ∀ k, (I b k = true → k ∈ usU f) ∧ (O b k = true → k ∈ usU f)
theorem Ctr.mono {f : SsaFunc} {I I' : Nat → Int → Bool} (h : ∀ b, b < f.fBlocks.xs.length → ∀ k, I b k = true → I' b k = true) {b : Nat} {k : Int} (hc : Ctr f I b k) : Ctr f I' b k := by
  obtain ⟨w, h1, h2, h3, h4, h5⟩ := hc
  exact ⟨w, h1, h2, h3, h _ (by omega) k h4, h5⟩
def updB {α : Type} (F : Nat → α) (b : Nat) (x : α) : Nat → α := fun j => if j = b then x else F j
theorem updB_same {α : Type} {F : Nat → α} {b : Nat} {x : α} : updB F b x b = x := if_pos rfl
theorem updB_ne {α : Type} {F : Nat → α} {b j : Nat} {x : α} (h : j ≠ b) : updB F b x j = F j := if_neg h
theorem updB_self {α : Type} {F : Nat → α} {b : Nat} : updB F b (F b) = F := by funext j; unfold updB; split <;> simp [*]
theorem InvQ.zero (f : SsaFunc) : InvQ f (fun _ _ => false) (fun _ _ => false) := ⟨fun _ _ _ h => (by cases h), fun _ _ _ h => (by cases h), fun _ _ _ _ _ => ⟨fun _ h => (by cases h), fun _ h => (by cases h)⟩, fun _ _ _ => ⟨fun h => (by cases h), fun h => (by cases h)⟩⟩
/-- One value more behind a block. -/
theorem InvQ.put {f : SsaFunc} {I O : Nat → Int → Bool} (h : InvQ f I O) {b : Nat} (hb : b < f.fBlocks.xs.length) {k : Int} (hk : Ctr f I b k) : InvQ f I (updB O b fun j => O b j || decide (j = k)) := by
  refine ⟨fun c hc j hj => ?_, fun c hc j hj => ?_, fun I' O' hcl c hc => ⟨fun j hj => (h.least I' O' hcl c hc).1 j hj, fun j hj => ?_⟩, fun c hc j => ⟨(h.us c hc j).1, fun hj => ?_⟩⟩
  · by_cases e : c = b
    · subst e
      rw [updB_same, Bool.or_eq_true, decide_eq_true_eq] at hj
      rcases hj with hj | rfl
      · exact h.sound c hc j hj
      · exact hk
    · rw [updB_ne e] at hj; exact h.sound c hc j hj
  · by_cases e : c = b
    · subst e
      rw [updB_same]
      exact liveB_mono (fun q hq => by rw [hq]; rfl) 0 j (h.low c hc j hj)
    · rw [updB_ne e]; exact h.low c hc j hj
  · by_cases e : c = b
    · subst e
      rw [updB_same, Bool.or_eq_true, decide_eq_true_eq] at hj
      rcases hj with hj | rfl
      · exact (h.least I' O' hcl c hc).2 j hj
      · exact (hcl c hc).1 j (hk.mono fun d hd q hq => (h.least I' O' hcl d hd).1 q hq)
    · rw [updB_ne e] at hj; exact (h.least I' O' hcl c hc).2 j hj
  · by_cases e : c = b
    · subst e
      rw [updB_same, Bool.or_eq_true, decide_eq_true_eq] at hj
      rcases hj with hj | rfl
      · exact (h.us c hc j).2 hj
      · obtain ⟨w, _, h2, h3, h4, _⟩ := hk
        exact (h.us _ (by omega) j).1 h4
    · rw [updB_ne e] at hj; exact (h.us c hc j).2 hj
/-- A block's set, reckoned again. -/
theorem InvQ.back {f : SsaFunc} {I O : Nat → Int → Bool} (h : InvQ f I O) {b : Nat} (hb : b < f.fBlocks.xs.length) : InvQ f (updB I b (backP (nth f.fBlocks.xs b) (O b))) O := by
  have hmono : ∀ c, c < f.fBlocks.xs.length → ∀ k, I c k = true → updB I b (backP (nth f.fBlocks.xs b) (O b)) c k = true := fun c hc k hk => by
    by_cases e : c = b
    · subst e; rw [updB_same]; exact h.low c hc k hk
    · rw [updB_ne e]; exact hk
  refine ⟨fun c hc j hj => (h.sound c hc j hj).mono hmono, fun c hc j hj => ?_, fun I' O' hcl c hc => ⟨fun j hj => ?_, (h.least I' O' hcl c hc).2⟩, fun c hc j => ⟨fun hj => ?_, (h.us c hc j).2⟩⟩
  · by_cases e : c = b
    · subst e; rw [updB_same] at hj; exact hj
    · rw [updB_ne e] at hj; exact h.low c hc j hj
  · by_cases e : c = b
    · subst e; rw [updB_same] at hj
      exact (hcl c hc).2 j (liveB_mono (h.least I' O' hcl c hc).2 0 j hj)
    · rw [updB_ne e] at hj; exact (h.least I' O' hcl c hc).1 j hj
  · by_cases e : c = b
    · subst e; rw [updB_same] at hj
      rcases liveB_in hj with h1 | h1
      · exact (h.us c hc j).2 h1
      · exact usB_in hc h1
    · rw [updB_ne e] at hj; exact (h.us c hc j).1 hj
/-- How many. -/
def dd : List Int → List Int
  | [] => []
  | k :: l => if k ∈ dd l then dd l else k :: dd l
theorem dd_mem {l : List Int} {k : Int} : k ∈ dd l ↔ k ∈ l := by
  induction l with
  | nil => rfl
  | cons a l ih =>
    unfold dd
    split
    · rename_i h
      rw [ih, List.mem_cons]
      exact ⟨.inr, fun h2 => h2.elim (fun e => e ▸ ih.1 (by rw [e]; exact h)) id⟩
    · rw [List.mem_cons, List.mem_cons, ih]
theorem dd_nodup (l : List Int) : (dd l).Nodup := by
  induction l with
  | nil => exact List.nodup_nil
  | cons a l ih =>
    unfold dd
    split
    · exact ih
    · rename_i h; exact List.nodup_cons.2 ⟨h, ih⟩
def cardU (us : List Int) (p : Int → Bool) : Nat := ((dd us).filter p).length
theorem cardU_of {us ks : List Int} {p : Int → Bool} (hn : ks.Nodup) (hm : ∀ k, k ∈ ks ↔ setP p k ≠ none) (hu : ∀ k, p k = true → k ∈ us) : ks.length = cardU us p := by
  have hm' : ∀ k, k ∈ ks ↔ p k = true := fun k => (hm k).trans (setP_ne p k)
  have h2 : ∀ k, k ∈ (dd us).filter p ↔ p k = true := fun k => by
    rw [List.mem_filter, dd_mem]
    exact ⟨fun h => h.2, fun h => ⟨hu k h, h⟩⟩
  have hnf : ((dd us).filter p).Nodup := (dd_nodup us).filter _
  unfold cardU
  exact Nat.le_antisymm (nodup_le hn fun k hk => (h2 k).2 ((hm' k).1 hk)) (nodup_le hnf fun k hk => (hm' k).2 ((h2 k).1 hk))
theorem cardU_le (us : List Int) (p : Int → Bool) : cardU us p ≤ (dd us).length := List.length_filter_le _ _
theorem filter_le {p q : Int → Bool} (h : ∀ k, p k = true → q k = true) : ∀ l : List Int, (l.filter p).length ≤ (l.filter q).length ∧ ((l.filter p).length = (l.filter q).length → ∀ k ∈ l, p k = q k)
  | [] => ⟨Nat.le_refl _, fun _ k hk => by cases hk⟩
  | a :: l => by
    obtain ⟨h1, h2⟩ := filter_le h l
    rw [List.filter_cons, List.filter_cons]
    cases hp : p a with
    | true =>
      rw [h a hp]
      refine ⟨by simpa using h1, fun e k hk => ?_⟩
      rcases List.mem_cons.1 hk with rfl | hk
      · rw [hp, h k hp]
      · exact h2 (by simpa using e) k hk
    | false =>
      cases hq : q a with
      | true => 
        refine ⟨by simp; omega, fun e => ?_⟩
        simp at e
        omega
      | false =>
        refine ⟨by simpa using h1, fun e k hk => ?_⟩
        rcases List.mem_cons.1 hk with rfl | hk
        · rw [hp, hq]
        · exact h2 (by simpa using e) k hk
theorem cardU_mono {us : List Int} {p q : Int → Bool} (h : ∀ k, p k = true → q k = true) : cardU us p ≤ cardU us q := (filter_le h _).1
theorem cardU_eq {us : List Int} {p q : Int → Bool} (h : ∀ k, p k = true → q k = true) (hu : ∀ k, q k = true → k ∈ us) (e : cardU us p = cardU us q) : p = q := by
  funext k
  by_cases hk : k ∈ us
  · exact (filter_le h _).2 e k (dd_mem.2 hk)
  · cases hp : p k with
    | true => exact absurd (hu k (h k hp)) hk
    | false =>
      cases hq : q k with
      | true => exact absurd (hu k hq) hk
      | false => rfl
end Go.Proofs.Ytfplmdjlgjgbgaa
