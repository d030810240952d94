/- Layer 12: taint.Of, walked. -/
import Derived.Test.YtomhieglgfjloaaQ8
namespace Go.Proofs.Ytomhieglgfjloaa
set_option linter.unusedVariables false
set_option linter.unusedSimpArgs false
open Go Go.RowKit

/-- What of a map is copied already. -/
def goneF {α : Type} (F : Int → Option α) (todo : Int → Bool) : Int → Option α := fun k => if todo k = true then none else F k
theorem goneF_start {α : Type} (F : Int → Option α) : (fun _ => none) = goneF F fun k => (F k).isSome := by
  funext k
  unfold goneF
  cases h : F k <;> simp [h]
theorem goneF_step {α : Type} {F : Int → Option α} {todo : Int → Bool} {k : Int} {x : α} (hF : F k = some x) : upd (goneF F todo) k (some x) = goneF F fun j => todo j && j != k := by
  funext j
  unfold upd goneF
  by_cases e : j = k
  · subst e; simp [hF]
  · simp [e]
theorem goneF_end {α : Type} {F : Int → Option α} {todo : Int → Bool} (h : ∀ k, F k ≠ none → todo k = false) : goneF F todo = F := by
  funext k
  unfold goneF
  cases hF : F k with
  | none => simp
  | some x => rw [h k (by rw [hF]; simp)]; simp
theorem goneF_sub {α : Type} {F : Int → Option α} {todo : Int → Bool} {k : Int} (h : goneF F todo k ≠ none) : F k ≠ none := by
  unfold goneF at h
  split at h
  · exact absurd rfl h
  · exact h
theorem len_flatMap {α β : Type} {g : α → List β} {c : Nat} : ∀ {l : List α}, (∀ x ∈ l, (g x).length ≤ c) → (l.flatMap g).length ≤ l.length * c
  | [], _ => Nat.zero_le _
  | a :: l, h => by
    rw [List.flatMap_cons, List.length_append, List.length_cons, Nat.succ_mul]
    have h1 := h a (by simp)
    have h2 := len_flatMap (l := l) fun x hx => h x (by simp [hx])
    omega
theorem madeB_few {b : SsaBlock} (h : FewBk b) : (madeB b).length ≤ 60 := by
  have h1 := h.p
  have h2 := h.i
  have h3 := dstsB7_len b.fIns.xs
  unfold madeB
  rw [List.length_append]
  omega
theorem madeAll_few {f : SsaFunc} (h : FewFn f) : (madeAll f.fBlocks.xs).length ≤ 1800 := by
  have h1 : (madeAll f.fBlocks.xs).length ≤ f.fBlocks.xs.length * 60 := len_flatMap fun x hx => by
    obtain ⟨m, hm, rfl⟩ := List.getElem_of_mem hx
    rw [← nth_get hm]; exact madeB_few (h.k m hm)
  have h2 := h.b
  omega
theorem labL_le {k : TC} {s : LSt} (hs : s.Ok k) (g : Tgt) : 0 ≤ labL s g ∧ labL s g ≤ 2 := by
  unfold labL
  split
  · cases e : s.V g.2.1 g.2.2 with
    | none => exact ⟨Int.le_refl _, by decide⟩
    | some x => exact hs.v _ _ x e
  · split
    · exact ⟨Int.le_refl _, by decide⟩
    · split
      · exact lab_nth hs.a _
      · split
        · exact lab_nth hs.r _
        · exact ⟨Int.le_refl _, by decide⟩
structure CutOk (cut : Sl Mr) (Cf : Nat → Int → Option Bool) (Kc : Nat → List Int) : Prop where
  l : cut.xs.length ≤ 1000
  keys : ∀ j, j < cut.xs.length → ∀ v, Cf j v ≠ none → v ∈ Kc j
  kl : ∀ j, (Kc j).length ≤ 1000000
  out : ∀ j, cut.xs.length ≤ j → Cf j = fun _ => none
def RdCut (cut : Sl Mr) (Nc : Nat → Nat) (Cf : Nat → Int → Option Bool) (ok : FP) (w : World) : Prop := RdD ok w cut ∧ ∀ j, j < cut.xs.length → RdM EB 3 ok w (nth cut.xs j).b (Nc j) (Cf j)
theorem RdCut.lasts (cut : Sl Mr) (Nc : Nat → Nat) (Cf : Nat → Int → Option Bool) : Lasts (RdCut cut Nc Cf) := fun ok ok' w w' h hk => ⟨h.1.loc hk, fun j hj => (h.2 j hj).loc hk⟩
def holdL (a : SsaArray) : Int := if a.fHold = 2 then 2 else 0
structure OfS where
  Av : Option Addr
  cv : Nat
  xv : List Mr
  Ac : Option Addr
  cc : Nat
  xc : List Mr
  mv : Nat → Nat
  mc : Nat → Nat
set_option maxHeartbeats 8000000 in
theorem taintOf_spec (p : SsaProg) (hp : FewPr p) (cut : Sl Mr) (Nc : Nat → Nat) (Cf : Nat → Int → Option Bool) (Kc : Nat → List Int) (hcu : CutOk cut Cf Kc) :
    Spec Try.prog 9 [.agg (Enc.enc p).toArray, .slice cut.A cut.xs.length cut.c] [] (fun ok w => RdD ok w p ∧ RdCut cut Nc Cf ok w) fun r L' =>
      (checkB p = false ∧ r = .tuple #[.agg (Enc.enc (Enc.dflt : TaintLabels)).toArray, .int .i64 40] ∧ L' = []) ∨
      (checkB p = true ∧ ∃ (l : TaintLabels) (mv mc : Nat → Nat) (s : LSt), r = .tuple #[.agg (Enc.enc l).toArray, .int .i64 0] ∧ Labd p (fun f v => (Cf f v).getD false) s ∧
        (∀ g, 0 ≤ labL s g ∧ labL s g ≤ 2) ∧ l.fArrays.xs = s.A ∧ l.fRets.xs = s.Rt ∧ l.fVals.xs.length = p.fFuncs.xs.length ∧ (∀ j, j < p.fFuncs.xs.length → (nth l.fVals.xs j).b = some (mv j)) ∧ l.fCut.xs.length = p.fFuncs.xs.length ∧
        L' = [own 56 l.fVals.A l.fVals.xs.length l.fVals.c l.fVals.xs, own 42 l.fArrays.A l.fArrays.xs.length l.fArrays.c l.fArrays.xs, own 42 l.fRets.A l.fRets.xs.length l.fRets.c l.fRets.xs, own 29 l.fCut.A l.fCut.xs.length l.fCut.c l.fCut.xs, bagG EL 3 (fun j => (madeAll (nth p.fFuncs.xs j).fBlocks.xs).length) p.fFuncs.xs.length mv s.V, bagG EB 3 (fun j => (Kc j).length) p.fFuncs.xs.length mc Cf]) := by
  refine spec_of Try.func9 rfl rfl fun w0 f0 hR => ?_
  obtain ⟨hRp, hRc, hRm⟩ := hR
  have hpa := hp.a
  have hpf := hp.f
  have hcl := hcu.l
  (repeat' (first | refine s_assign ?_ | refine s_nil ?_ | (refine k_C ?_; first | refine s_seq ?_ | refine s_region ?_) | (refine k_E ?_; refine e_seq ?_) | (refine k_load ?_; refine s_ldBW rfl rfl ?_) | (refine s_alloc ?_; intro b) | (refine s_box _ rfl ?_; intro b)))
  rename_i b2
  obtain ⟨b4, rfl⟩ : ∃ q, q = b := ⟨_, rfl⟩
  refine s_call0 (check_spec p (fewP_pr hp)) rfl (fun w1 H => H.rdD (by infer_instance)) ?_
  rintro r L' ⟨rfl, rfl⟩
  cases hck : checkB p with
  | false =>
    rw [if_neg (by simp)]
    (repeat' (first | refine s_nil ?_ | (refine k_C ?_; first | refine s_seq ?_ | refine s_region ?_ | refine s_ift rfl ?_) | (refine k_E ?_; refine e_seq ?_) | (refine k_bin ?_; refine s_neq rfl rfl ?_)))
    refine s_bld (Enc.dflt : TaintLabels) (by kernel_rfl) ?_
    (repeat' (first | refine s_assign ?_ | refine s_nil ?_ | (refine k_C ?_; refine s_ret ?_) | (refine k_E ?_; first | refine e_seq ?_ | refine e_seq_ret ?_) | (refine k_store ?_; refine s_stW _ rfl rfl ?_)))
    exact e_doneCT rfl rfl rfl rfl rfl [] (PSub.take [] rfl) (.inl ⟨rfl, rfl, rfl⟩)
  | true =>
    rw [if_pos rfl]
    have hG := goodP_of hck
    (repeat' (first | refine s_nil ?_ | (refine k_C ?_; first | refine s_seq ?_ | refine s_skip ?_ | refine s_iff rfl ?_) | (refine k_E ?_; refine e_seq ?_) | (refine k_bin ?_; refine s_neq rfl rfl ?_)))
    refine s_draw [var 33 b4 (Enc.dflt : TaintLabels), var 25 b2 p] 3 foI (by kernel_rfl) PSub.refl fun hD => ?_
    refine d_rd (fuel := 4) #[true, true, false, false, false, false] [0, 1] ?F3 hD (by kernel_rfl) ?hr3 ?hn3
    case hr3 =>
      change sO _ _ _ _ _ _ (_ :: _ :: []) _ _ _
      (repeat' (first | refine s_nil ?_ | (refine k_load ?_; refine s_ldBW rfl rfl ?_)))
      exact e_F
    refine d_all (fuel := 3) [2] (by kernel_rfl) ⟨?_, trivial⟩
    change sO _ _ _ _ _ _ (_ :: []) _ _ _
    skip
    refine s_call0 (writes_spec p hp) rfl (fun w1 H => H.rdD (by infer_instance)) ?_
    rintro r L' ⟨Aw, cw, rfl, rfl⟩
    (repeat' (first | refine s_nil ?_))
    refine e_sd (PSub.take [1, 1] rfl) ?_
    refine d_end hD (by kernel_rfl) rfl ?_
    change sO _ _ _ _ _ _ (_ :: _ :: _ :: []) _ _ _
    refine s_bld (⟨p, Enc.dflt, ⟨Aw, cw, writesL p⟩, false⟩ : TaintSolver) (by kernel_rfl) ?_
    (repeat' (first | refine s_move ?_ | refine s_assign ?_ | refine s_nil ?_ | (refine k_C ?_; first | refine s_seq ?_ | refine s_region ?_ | refine s_block ?_) | (refine k_E ?_; refine e_seq ?_) | (refine k_load ?_; refine s_ldB rfl rfl ?_) | (refine k_fld ?_; refine s_fldB rfl ?_) | (refine k_call ?_; refine s_len rfl ?_) | (refine s_box _ rfl ?_; intro b)))
    obtain ⟨b6, rfl⟩ : ∃ q, q = b := ⟨_, rfl⟩
    refine s_loop (σ := Nat × OfS) (fun q => [(1, .slice cut.A cut.xs.length cut.c), (2, .pointer (some ⟨b2, 0, none⟩)), (4, .pointer (some ⟨b4, 0, none⟩)), (5, .int .i64 0), (6, .pointer (some ⟨b6, 0, none⟩)), (28, .slice p.fFuncs.A p.fFuncs.xs.length p.fFuncs.c), (29, .int .i64 p.fFuncs.xs.length), (30, .int .i64 (q.1 : Nat))])
      (fun q => [var 78 b6 (⟨p, ⟨⟨q.2.Av, q.2.cv, q.2.xv⟩, Enc.dflt, Enc.dflt, ⟨q.2.Ac, q.2.cc, q.2.xc⟩⟩, ⟨Aw, cw, writesL p⟩, false⟩ : TaintSolver), own 56 q.2.Av q.2.xv.length q.2.cv q.2.xv, own 29 q.2.Ac q.2.xc.length q.2.cc q.2.xc, bagG EL 3 (fun j => (madeAll (nth p.fFuncs.xs j).fBlocks.xs).length) q.1 q.2.mv (fun _ _ => none), bagG EB 3 (fun j => (Kc j).length) q.1 q.2.mc Cf, own 4 Aw (writesL p).length cw (writesL p), var 25 b2 p, var 33 b4 (Enc.dflt : TaintLabels)])
      (fun q => q.1 ≤ p.fFuncs.xs.length ∧ q.2.xv.length = q.1 ∧ q.2.xc.length = q.1 ∧ (∀ j, j < q.1 → (nth q.2.xv j).b = some (q.2.mv j)) ∧ ∀ j, j < q.1 → (nth q.2.xc j).b = some (q.2.mc j)) (fun q => p.fFuncs.xs.length - q.1)
      (0, ⟨none, 0, [], none, 0, [], fun _ => 0, fun _ => 0⟩) (by repeat (first | exact trivial | refine ⟨rfl, ?_⟩)) ⟨Nat.zero_le _, rfl, rfl, fun j hj => absurd hj (Nat.not_lt_zero j), fun j hj => absurd hj (Nat.not_lt_zero j)⟩
      ((PSub.bagG0 (E := EB) (kt := 3) (U := (fun j => (Kc j).length)) (mi := fun _ => 0) (F := Cf)).trans ((PSub.bagG0 (E := EL) (kt := 3) (U := (fun j => (madeAll (nth p.fFuncs.xs j).fBlocks.xs).length)) (mi := fun _ => 0) (F := fun _ _ => none)).trans ((PSub.nilOwn (α := Mr) 29).trans ((PSub.nilOwn (α := Mr) 56).trans (PSub.take [4, 0, 0, 0, 0, 0, 1, 0] rfl))))) ?_
    rintro g ⟨i, S⟩ ⟨hi, hvl, hcl2, hvb, hcb⟩
    dsimp only at hi hvl hcl2 hvb hcb ⊢
    (repeat' (first | refine s_nil ?_ | (refine k_C ?_; first | refine s_seq ?_ | refine s_region ?_) | (refine k_E ?_; refine e_seq ?_) | (refine k_bin ?_; refine s_lss rfl rfl ?_)))
    (first | (refine k_C ?_; (refine s_ifd rfl ?_ ?_ <;> intro hc <;> try (exfalso; omega))))
    · have hil : i < p.fFuncs.xs.length := by omega
      --{
      (repeat' (first | refine s_move ?_ | refine s_assign ?_ | refine s_nil ?_ | (refine k_C ?_; first | refine s_seq ?_ | refine s_region ?_ | refine s_skip ?_ | refine s_block ?_) | (refine k_E ?_; refine e_seq ?_) | (refine k_load ?_; refine s_ldB rfl rfl ?_) | (refine k_fld ?_; refine s_fldB rfl ?_) | refine s_nilck rfl ?_ | (refine s_app1 _ (fun _ => rfl) rfl om ?_; intro v A c) | (refine s_mkmapI ?_; intro b)))
      obtain ⟨bm, rfl⟩ : ∃ q, q = b := ⟨_, rfl⟩
      obtain ⟨A1, rfl⟩ : ∃ q, q = A := ⟨_, rfl⟩
      obtain ⟨c1, rfl⟩ : ∃ q, q = c := ⟨_, rfl⟩
      refine s_stB (⟨p, ⟨⟨A1, c1, S.xv ++ [(⟨some bm⟩ : Mr)]⟩, Enc.dflt, Enc.dflt, ⟨S.Ac, S.cc, S.xc⟩⟩, ⟨Aw, cw, writesL p⟩, false⟩ : TaintSolver) rfl rfl (by simp only [Enc.enc, List.length_append]; rfl) (by decide) ?_
      (repeat' (first | refine s_move ?_ | refine s_assign ?_ | refine s_nil ?_ | (refine k_C ?_; first | refine s_seq ?_ | refine s_region ?_) | (refine k_E ?_; refine e_seq ?_) | (refine k_bin ?_; refine s_lss rfl rfl ?_) | (refine k_call ?_; refine s_len rfl ?_) | (refine s_mkmapB ?_; intro b)))
      obtain ⟨b8, rfl⟩ : ∃ q, q = b := ⟨_, rfl⟩
      have hkc := hcu.kl i
      refine s_cutI (σ := Unit) (fun _ => [(1, .slice cut.A cut.xs.length cut.c), (2, .pointer (some ⟨b2, 0, none⟩)), (4, .pointer (some ⟨b4, 0, none⟩)), (5, .int .i64 0), (6, .pointer (some ⟨b6, 0, none⟩)), (28, .slice p.fFuncs.A p.fFuncs.xs.length p.fFuncs.c), (29, .int .i64 p.fFuncs.xs.length), (30, .int .i64 (i : Nat)), (7, .int .i64 (i : Nat)), (8, .map (some b8))])
        (fun _ => [mp EB 3 b8 (Kc i).length (Cf i), mp EL 3 bm 0 (fun _ => none), var 78 b6 (⟨p, ⟨⟨A1, c1, S.xv ++ [(⟨some bm⟩ : Mr)]⟩, Enc.dflt, Enc.dflt, ⟨S.Ac, S.cc, S.xc⟩⟩, ⟨Aw, cw, writesL p⟩, false⟩ : TaintSolver), own 56 A1 (S.xv.length + 1) c1 (S.xv ++ [(⟨some bm⟩ : Mr)]), own 29 S.Ac S.xc.length S.cc S.xc, bagG EL 3 (fun j => (madeAll (nth p.fFuncs.xs j).fBlocks.xs).length) i S.mv (fun _ _ => none), bagG EB 3 (fun j => (Kc j).length) i S.mc Cf, own 4 Aw (writesL p).length cw (writesL p), var 25 b2 p, var 33 b4 (Enc.dflt : TaintLabels)]) (fun _ => True) ?_ ?_
      · refine s_ifd rfl ?_ ?_ <;> intro hc
        · have hic : i < cut.xs.length := by omega
          haveI : RdMp (P := Try.prog) EB 3 (okOf w0 f0) w0 (nth cut.xs i).b (Nc i) (Cf i) := ⟨hRm i hic⟩
          (repeat' (first | refine s_move ?_ | (refine k_C ?_; first | refine s_seq ?_ | refine s_region ?_) | (refine k_load ?_; refine s_ldS rfl rfl om rfl ?_) | (refine k_idx ?_; refine s_idxS rfl rfl om ?_)))
          refine s_rangeS rfl ?_
          intro es clock cnt r hcnt hM
          (repeat' (first | refine s_nil ?_ | (refine k_C ?_; refine s_block ?_) | (refine k_E ?_; refine e_seq ?_)))
          refine s_loop (σ := (Int → Bool) × Nat) (fun z => [(1, .slice cut.A cut.xs.length cut.c), (2, .pointer (some ⟨b2, 0, none⟩)), (4, .pointer (some ⟨b4, 0, none⟩)), (5, .int .i64 0), (6, .pointer (some ⟨b6, 0, none⟩)), (28, .slice p.fFuncs.A p.fFuncs.xs.length p.fFuncs.c), (29, .int .i64 p.fFuncs.xs.length), (30, .int .i64 (i : Nat)), (7, .int .i64 (i : Nat)), (8, .map (some b8)), (54, .pointer (some ⟨r, 0, none⟩))])
            (fun z => [itr Try.prog 3 4 (nth cut.xs i).b r es clock z.1 z.2, mp EB 3 b8 (Kc i).length (goneF (Cf i) z.1), mp EL 3 bm 0 (fun _ => none), var 78 b6 (⟨p, ⟨⟨A1, c1, S.xv ++ [(⟨some bm⟩ : Mr)]⟩, Enc.dflt, Enc.dflt, ⟨S.Ac, S.cc, S.xc⟩⟩, ⟨Aw, cw, writesL p⟩, false⟩ : TaintSolver), own 56 A1 (S.xv.length + 1) c1 (S.xv ++ [(⟨some bm⟩ : Mr)]), own 29 S.Ac S.xc.length S.cc S.xc, bagG EL 3 (fun j => (madeAll (nth p.fFuncs.xs j).fBlocks.xs).length) i S.mv (fun _ _ => none), bagG EB 3 (fun j => (Kc j).length) i S.mc Cf, own 4 Aw (writesL p).length cw (writesL p), var 25 b2 p, var 33 b4 (Enc.dflt : TaintLabels)])
            (fun _ => True) (fun z => z.2) ((fun k => (Cf i k).isSome), cnt) (by repeat (first | exact trivial | refine ⟨rfl, ?_⟩)) trivial ((PSub.take [1, 0, 0, 0, 0, 0, 0, 0, 0, 0, 0] rfl).trans ((PSub.mpCut (Kc i) U_3 fun k hk => absurd rfl hk).trans ((PSub.take [1, 0, 0, 0, 0, 0, 0, 0, 0, 0, 0] rfl).trans (PSub.eq (by rw [goneF_start]; rfl))))) ?_
          rintro g3 ⟨todo, c3⟩ _
          dsimp only
          (repeat' (first | (refine k_C ?_; first | refine s_seq ?_ | refine s_region ?_)))
          refine s_nextS U_3 hM rfl (fun hfin => ?_) (fun k x cnt' hk hg ht hF hlt => ?_)
          · rw [goneF_end hfin]
            (repeat' (first | refine s_nil ?_ | (refine k_C ?_; first | refine s_seq ?_ | refine s_exit ?_ | refine s_iff rfl ?_) | (refine k_E ?_; first | refine e_seq ?_ | refine e_seq_exit ?_ | refine e_bk_exit ?_ | refine e_lp_exit ?_) | refine s_extract rfl rfl ?_))
            exact e_ct () (by repeat (first | exact trivial | refine ⟨rfl, ?_⟩)) trivial PSub.refl
          · haveI : RdD (okOf w0 f0) w0 k := ⟨hk⟩
            (repeat' (first | refine s_nil ?_ | (refine k_C ?_; first | refine s_seq ?_ | refine s_region ?_ | refine s_skip ?_ | refine s_block ?_ | refine s_ift rfl ?_) | (refine k_E ?_; refine e_seq ?_) | refine s_extract rfl rfl ?_))
            refine s_entryS hM rfl ?_
            (repeat' (first | refine s_move ?_ | refine s_assign ?_ | refine s_nil ?_ | (refine k_C ?_; refine s_region ?_) | (refine k_E ?_; refine e_seq ?_) | refine s_extract rfl rfl ?_))
            refine s_put (yv := x) rfl rfl rfl hk trivial (by omega) ?_
            (repeat' (first | refine s_nil ?_ | (refine k_E ?_; refine e_bk ?_)))
            exact e_lp (fun j => todo j && j != k, cnt') (by repeat (first | exact trivial | refine ⟨rfl, ?_⟩)) trivial hlt ((PSub.take [1, 0, 0, 0, 0, 0, 0, 0, 0, 0, 0] rfl).trans ((PSub.mpCut (Kc i) U_3 fun j hj => hcu.keys i hic j (by
              rw [goneF_step hF] at hj
              exact goneF_sub hj)).trans ((PSub.take [1, 0, 0, 0, 0, 0, 0, 0, 0, 0, 0] rfl).trans (PSub.eq (by rw [goneF_step hF]; rfl)))))
        · (repeat' (first | (refine k_C ?_; refine s_skip ?_)))
          exact e_ct () (by repeat (first | exact trivial | refine ⟨rfl, ?_⟩)) trivial ((PSub.mpCut (Kc i) U_3 fun k hk => absurd rfl hk).trans (PSub.eq (by rw [hcu.out i (by omega)])))
      rintro g2 _ _
      (repeat' (first | refine s_move ?_ | (refine k_C ?_; refine s_region ?_) | (refine k_load ?_; refine s_ldB rfl rfl ?_) | (refine k_fld ?_; refine s_fldB rfl ?_) | refine s_nilck rfl ?_ | (refine s_app1 _ (fun _ => rfl) rfl om ?_; intro v A c)))
      obtain ⟨A2, rfl⟩ : ∃ q, q = A := ⟨_, rfl⟩
      obtain ⟨c2, rfl⟩ : ∃ q, q = c := ⟨_, rfl⟩
      refine s_stB (⟨p, ⟨⟨A1, c1, S.xv ++ [(⟨some bm⟩ : Mr)]⟩, Enc.dflt, Enc.dflt, ⟨A2, c2, S.xc ++ [(⟨some b8⟩ : Mr)]⟩⟩, ⟨Aw, cw, writesL p⟩, false⟩ : TaintSolver) rfl rfl (by simp only [Enc.enc, List.length_append]; rfl) (by decide) ?_
      (repeat' (first | refine s_move ?_ | refine s_nil ?_ | (refine k_C ?_; refine s_region ?_) | (refine k_E ?_; first | refine e_seq ?_ | refine e_bk ?_) | (refine k_bin ?_; refine s_add1 rfl rfl om ?_)))
      have hnx : ∀ (xs : List Mr) (m : Nat → Nat) (b9 : Nat), xs.length = i → (∀ j, j < i → (nth xs j).b = some (m j)) → ∀ j, j < i + 1 → (nth (xs ++ [(⟨some b9⟩ : Mr)]) j).b = some (updB m i b9 j) := fun xs m b9 hl hm j hj => by
        rw [nth_app]
        by_cases e : j < i
        · rw [if_pos (by omega), updB_ne (by omega)]; exact hm j e
        · obtain rfl : j = i := by omega
          rw [if_neg (by omega), hl, Nat.sub_self, updB_same]; rfl
      refine e_lp (i + 1, ⟨A1, c1, S.xv ++ [(⟨some bm⟩ : Mr)], A2, c2, S.xc ++ [(⟨some b8⟩ : Mr)], updB S.mv i bm, updB S.mc i b8⟩) (by repeat (first | exact trivial | refine ⟨rfl, ?_⟩)) ⟨by show i + 1 ≤ _; omega, by show (S.xv ++ [_]).length = i + 1; rw [List.length_append, hvl]; rfl, by show (S.xc ++ [_]).length = i + 1; rw [List.length_append, hcl2]; rfl, hnx _ _ _ hvl hvb, hnx _ _ _ hcl2 hcb⟩ (by show _ - _ < _ - _; omega)
        ((PSub.take [1, 0, 0, 0, 0, 0, 0, 0, 0, 0] rfl).trans ((PSub.mpCut (madeAll (nth p.fFuncs.xs i).fBlocks.xs) U_3 fun k hk => absurd rfl hk).trans ((PSub.take [0, 4, 0, 0, 0, 0, 0, 0, 0, 0] rfl).trans ((PSub.bagGnew (E := EL) (kt := 3) (U := (fun j => (madeAll (nth p.fFuncs.xs j).fBlocks.xs).length)) (k := i) (mi := S.mv) (F := fun _ _ => none) (G := fun _ => none)).trans ((PSub.take [1, 4, 0, 0, 0, 0, 0, 0, 0] rfl).trans ((PSub.bagGnew (E := EB) (kt := 3) (U := (fun j => (Kc j).length)) (k := i) (mi := S.mc) (F := Cf) (G := Cf i)).trans ((PSub.take [2, 2, 2, 1, 0, 0, 0, 0] rfl).trans (PSub.eq ?_))))))))
      rw [updB_self, show updB (fun (_ : Nat) (_ : Int) => (none : Option Int)) i (fun _ => none) = fun _ _ => none from updB_self (F := fun (_ : Nat) (_ : Int) => (none : Option Int))]
      simp only [List.length_append]
      rfl
      --}
    have hiE : i = p.fFuncs.xs.length := by omega
    subst hiE
    (repeat' (first | refine s_move ?_ | (refine k_C ?_; first | refine s_seq ?_ | refine s_region ?_ | refine s_exit ?_) | (refine k_E ?_; first | refine e_seq ?_ | refine e_seq_exit ?_ | refine e_bk_exit ?_ | refine e_lp_exit ?_) | (refine k_load ?_; refine s_ldB rfl rfl ?_) | (refine k_fld ?_; refine s_fldB rfl ?_) | (refine k_call ?_; refine s_len rfl ?_) | (refine s_make rfl rfl om ?_; intro b) | refine s_nilck rfl ?_))
    obtain ⟨br, rfl⟩ : ∃ q, q = b := ⟨_, rfl⟩
    refine s_stB (⟨p, ⟨⟨S.Av, S.cv, S.xv⟩, Enc.dflt, ⟨some ⟨br, 0, none⟩, p.fFuncs.xs.length, List.replicate p.fFuncs.xs.length (Enc.dflt : Int)⟩, ⟨S.Ac, S.cc, S.xc⟩⟩, ⟨Aw, cw, writesL p⟩, false⟩ : TaintSolver) rfl rfl (by simp only [Enc.enc, List.length_replicate]; rfl) (by decide) ?_
    (repeat' (first | refine s_move ?_ | refine s_nil ?_ | (refine k_C ?_; first | refine s_seq ?_ | refine s_region ?_ | refine s_block ?_) | (refine k_E ?_; refine e_seq ?_) | (refine k_load ?_; refine s_ldB rfl rfl ?_) | (refine k_fld ?_; refine s_fldB rfl ?_) | (refine k_call ?_; refine s_len rfl ?_)))
    have hmkr : (List.replicate p.fFuncs.xs.length (0 : Int)).length = p.fFuncs.xs.length := List.length_replicate
    have hS0 : own 42 (some ⟨br, 0, none⟩) p.fFuncs.xs.length p.fFuncs.xs.length (List.replicate p.fFuncs.xs.length (Enc.dflt : Int)) = own 42 (some ⟨br, 0, none⟩) (List.replicate p.fFuncs.xs.length (0 : Int)).length p.fFuncs.xs.length (List.replicate p.fFuncs.xs.length (0 : Int)) := by rw [hmkr]; rfl
    refine s_loop (σ := Nat × Option Addr × Nat × List Int) (fun q => [(1, .slice cut.A cut.xs.length cut.c), (2, .pointer (some ⟨b2, 0, none⟩)), (4, .pointer (some ⟨b4, 0, none⟩)), (5, .int .i64 0), (6, .pointer (some ⟨b6, 0, none⟩)), (85, .slice p.fArrays.A p.fArrays.xs.length p.fArrays.c), (86, .int .i64 p.fArrays.xs.length), (87, .int .i64 (q.1 : Nat))])
      (fun q => [var 78 b6 (⟨p, ⟨⟨S.Av, S.cv, S.xv⟩, ⟨q.2.1, q.2.2.1, q.2.2.2⟩, ⟨some ⟨br, 0, none⟩, p.fFuncs.xs.length, List.replicate p.fFuncs.xs.length (0 : Int)⟩, ⟨S.Ac, S.cc, S.xc⟩⟩, ⟨Aw, cw, writesL p⟩, false⟩ : TaintSolver), own 56 S.Av S.xv.length S.cv S.xv, own 42 q.2.1 q.2.2.2.length q.2.2.1 q.2.2.2, own 42 (some ⟨br, 0, none⟩) (List.replicate p.fFuncs.xs.length (0 : Int)).length p.fFuncs.xs.length (List.replicate p.fFuncs.xs.length (0 : Int)), own 29 S.Ac S.xc.length S.cc S.xc, own 4 Aw (writesL p).length cw (writesL p), bagG EL 3 (fun j => (madeAll (nth p.fFuncs.xs j).fBlocks.xs).length) p.fFuncs.xs.length S.mv (fun _ _ => none), bagG EB 3 (fun j => (Kc j).length) p.fFuncs.xs.length S.mc Cf, var 25 b2 p, var 33 b4 (Enc.dflt : TaintLabels)])
      (fun q => q.1 ≤ p.fArrays.xs.length ∧ q.2.2.2 = (p.fArrays.xs.take q.1).map holdL) (fun q => p.fArrays.xs.length - q.1) (0, none, 0, []) (by repeat (first | exact trivial | refine ⟨rfl, ?_⟩)) ⟨Nat.zero_le _, rfl⟩
      ((PSub.eq (by rw [hS0])).trans ((PSub.nilOwn (α := Int) 42).trans (PSub.take [2, 2, 0, 0, 0, 2, 0, 0, 0, 0] rfl))) ?_
    rintro g2 ⟨j, Aa, ca, xa⟩ ⟨hj, hxa⟩
    dsimp only at hj hxa ⊢
    (repeat' (first | refine s_nil ?_ | (refine k_C ?_; first | refine s_seq ?_ | refine s_region ?_) | (refine k_E ?_; refine e_seq ?_) | (refine k_bin ?_; refine s_lss rfl rfl ?_)))
    (first | (refine k_C ?_; (refine s_ifd rfl ?_ ?_ <;> intro hc <;> try (exfalso; omega))))
    · have hjl : j < p.fArrays.xs.length := by omega
      have hla : xa.length = j := by rw [hxa, List.length_map, List.length_take]; omega
      have hx1 : ∀ z, z = holdL (nth p.fArrays.xs j) → xa ++ [z] = (p.fArrays.xs.take (j + 1)).map holdL := fun z hz => by rw [hxa, ← takeN hjl, List.map_append, hz]; rfl
      (repeat' (first | refine s_move ?_ | refine s_assign ?_ | refine s_nil ?_ | (refine k_C ?_; first | refine s_seq ?_ | refine s_region ?_ | refine s_skip ?_ | refine s_block ?_ | (refine s_ifd rfl ?_ ?_ <;> intro hc <;> try (exfalso; omega))) | (refine k_E ?_; refine e_seq ?_) | (refine k_load ?_; first | refine s_ldB rfl rfl ?_ | refine s_ldSA rfl rfl om rfl ?_) | (refine k_bin ?_; refine s_eql rfl rfl ?_) | (refine k_fld ?_; refine s_fldB rfl ?_) | (refine k_idx ?_; refine s_idxS rfl rfl om ?_) | (refine k_store ?_; refine s_stW _ rfl rfl ?_) | (refine s_alloc ?_; intro b) | refine s_nilck rfl ?_ | (refine s_app1 _ (fun _ => rfl) rfl om ?_; intro v A c)))
      · obtain ⟨A1, rfl⟩ : ∃ q, q = A := ⟨_, rfl⟩
        obtain ⟨c1, rfl⟩ : ∃ q, q = c := ⟨_, rfl⟩
        refine s_stB (⟨p, ⟨⟨S.Av, S.cv, S.xv⟩, ⟨A1, c1, xa ++ [2]⟩, ⟨some ⟨br, 0, none⟩, p.fFuncs.xs.length, List.replicate p.fFuncs.xs.length (0 : Int)⟩, ⟨S.Ac, S.cc, S.xc⟩⟩, ⟨Aw, cw, writesL p⟩, false⟩ : TaintSolver) rfl rfl (by simp only [Enc.enc, List.length_append]; rfl) (by decide) ?_
        (repeat' (first | refine s_move ?_ | refine s_nil ?_ | (refine k_C ?_; refine s_region ?_) | (refine k_E ?_; first | refine e_seq ?_ | refine e_bk ?_) | (refine k_bin ?_; refine s_add1 rfl rfl om ?_)))
        exact e_lp (j + 1, A1, c1, xa ++ [2]) (by repeat (first | exact trivial | refine ⟨rfl, ?_⟩)) ⟨by show j + 1 ≤ _; omega, hx1 2 (by unfold holdL; rw [if_pos (by assumption)])⟩ (by show _ - _ < _ - _; omega) ((PSub.take [1, 1, 1, 1, 1, 1, 1, 1, 1, 1] rfl).trans (PSub.eq (by simp only [List.length_append]; rfl)))
      · obtain ⟨A1, rfl⟩ : ∃ q, q = A := ⟨_, rfl⟩
        obtain ⟨c1, rfl⟩ : ∃ q, q = c := ⟨_, rfl⟩
        refine s_stB (⟨p, ⟨⟨S.Av, S.cv, S.xv⟩, ⟨A1, c1, xa ++ [0]⟩, ⟨some ⟨br, 0, none⟩, p.fFuncs.xs.length, List.replicate p.fFuncs.xs.length (0 : Int)⟩, ⟨S.Ac, S.cc, S.xc⟩⟩, ⟨Aw, cw, writesL p⟩, false⟩ : TaintSolver) rfl rfl (by simp only [Enc.enc, List.length_append]; rfl) (by decide) ?_
        (repeat' (first | refine s_move ?_ | refine s_nil ?_ | (refine k_C ?_; refine s_region ?_) | (refine k_E ?_; first | refine e_seq ?_ | refine e_bk ?_) | (refine k_bin ?_; refine s_add1 rfl rfl om ?_)))
        exact e_lp (j + 1, A1, c1, xa ++ [0]) (by repeat (first | exact trivial | refine ⟨rfl, ?_⟩)) ⟨by show j + 1 ≤ _; omega, hx1 0 (by unfold holdL; rw [if_neg (by assumption)])⟩ (by show _ - _ < _ - _; omega) ((PSub.take [1, 1, 1, 1, 1, 1, 1, 1, 1, 1] rfl).trans (PSub.eq (by simp only [List.length_append]; rfl)))
    have hjE : j = p.fArrays.xs.length := by omega
    subst hjE
    rw [List.take_length] at hxa
    (repeat' (first | refine s_move ?_ | (refine k_C ?_; first | refine s_seq ?_ | refine s_region ?_ | refine s_exit ?_) | (refine k_E ?_; first | refine e_seq ?_ | refine e_seq_exit ?_ | refine e_bk_exit ?_ | refine e_lp_exit ?_) | (refine k_fld ?_; refine s_fldB rfl ?_) | refine s_nilck rfl ?_))
    refine s_stB (⟨p, ⟨⟨S.Av, S.cv, S.xv⟩, ⟨Aa, ca, xa⟩, ⟨some ⟨br, 0, none⟩, p.fFuncs.xs.length, List.replicate p.fFuncs.xs.length (0 : Int)⟩, ⟨S.Ac, S.cc, S.xc⟩⟩, ⟨Aw, cw, writesL p⟩, true⟩ : TaintSolver) rfl rfl (by rfl) (by decide) ?_
    obtain ⟨k, hb, hkp, hxv, hAa, hca, hAr, hcr, hxc, hxw, hmv, hmc, hC, hNC, hkn, hK⟩ : ∃ k : TC, k.b = b6 ∧ k.p = p ∧ k.xv = ⟨S.Av, S.cv, S.xv⟩ ∧ k.Aa = Aa ∧ k.ca = ca ∧ k.Ar = some ⟨br, 0, none⟩ ∧ k.cr = p.fFuncs.xs.length ∧ k.xc = ⟨S.Ac, S.cc, S.xc⟩ ∧ k.xw = ⟨Aw, cw, writesL p⟩ ∧ k.mv = S.mv ∧ k.mc = S.mc ∧ k.C = Cf ∧ k.NC = (fun j => (Kc j).length) ∧ k.n = p.fFuncs.xs.length ∧ k.K = fun j => madeAll (nth p.fFuncs.xs j).fBlocks.xs :=
      ⟨⟨b6, p, ⟨S.Av, S.cv, S.xv⟩, Aa, ca, some ⟨br, 0, none⟩, p.fFuncs.xs.length, ⟨S.Ac, S.cc, S.xc⟩, ⟨Aw, cw, writesL p⟩, S.mv, S.mc, Cf, (fun j => (Kc j).length), p.fFuncs.xs.length, fun j => madeAll (nth p.fFuncs.xs j).fBlocks.xs⟩, rfl, rfl, rfl, rfl, rfl, rfl, rfl, rfl, rfl, rfl, rfl, rfl, rfl, rfl, rfl⟩
    subst hb
    have hkOk : k.Ok := ⟨by omega, by rw [hxv, hkn]; exact hvl, fun j hj => by rw [hxv, hmv]; exact hvb j (by omega), by rw [hxc, hkn]; exact hcl2, fun j hj => by rw [hxc, hmc]; exact hcb j (by omega), fun j hj => by
      rw [hK]
      have := madeAll_few (hp.k j (by omega))
      show (madeAll _).length ≤ _
      omega⟩
    have hGood : ∀ q ∈ rqP p k.cut (writesL p) p.fFuncs.xs.length, GoodQ q := goodP
    have hbase : ∀ g, labL ⟨fun _ _ => none, xa, List.replicate p.fFuncs.xs.length 0, true⟩ g = baseL p g := fun g => by
      obtain ⟨g1, g2, g3⟩ := g
      unfold labL baseL
      dsimp only
      by_cases h0 : g1 = 0
      · subst h0; simp
      · rw [if_neg h0]
        by_cases h3 : g3 = 0
        · rw [if_neg (by simp [h3])]
          by_cases h1 : g1 = 1
          · rw [if_pos h1, hxa]
            by_cases hl : g2 < p.fArrays.xs.length
            · rw [nth_get (by rw [List.length_map]; exact hl), List.getElem_map, ← nth_get hl]
              unfold holdL
              by_cases hh : (nth p.fArrays.xs g2).fHold = 2
              · rw [if_pos hh, if_pos ⟨h1, h3, hl, hh⟩]
              · rw [if_neg hh, if_neg (fun h => hh h.2.2.2)]
            · rw [nth_out (by rw [List.length_map]; omega), if_neg (fun h => hl h.2.2.1)]; rfl
          · rw [if_neg h1]
            refine Eq.trans ?_ (if_neg (fun h => h1 h.1)).symm
            by_cases h2 : g1 = 2
            · rw [if_pos h2]
              exact nth_rep (α := Int)
            · rw [if_neg h2]
        · rw [if_pos h3]
          exact (if_neg (fun h => h3 h.2.1)).symm
    (repeat' (first | refine s_nil ?_ | (refine k_C ?_; refine s_block ?_) | (refine k_E ?_; refine e_seq ?_)))
    refine s_loop (σ := LSt) (fun s => [(1, .slice cut.A cut.xs.length cut.c), (2, .pointer (some ⟨b2, 0, none⟩)), (4, .pointer (some ⟨b4, 0, none⟩)), (5, .int .i64 0), (6, .pointer (some ⟨k.b, 0, none⟩))]) (fun s => [var 78 k.b (⟨k.p, ⟨k.xv, ⟨k.Aa, k.ca, s.A⟩, ⟨k.Ar, k.cr, s.Rt⟩, k.xc⟩, k.xw, s.t⟩ : TaintSolver), own 56 k.xv.A k.xv.xs.length k.xv.c k.xv.xs, own 42 k.Aa s.A.length k.ca s.A, own 42 k.Ar s.Rt.length k.cr s.Rt, own 29 k.xc.A k.xc.xs.length k.xc.c k.xc.xs, own 4 k.xw.A k.xw.xs.length k.xw.c k.xw.xs, bagG EL 3 (fun j => (k.K j).length) k.n k.mv s.V, bagG EB 3 k.NC k.n k.mc k.C, var 25 b2 p, var 33 b4 (Enc.dflt : TaintLabels)])
      (fun s => s.Ok k ∧ s.A.length = p.fArrays.xs.length ∧ s.Rt.length = p.fFuncs.xs.length ∧ (∀ g, baseL p g ≤ labL s g) ∧ (∀ L', ClosedR (rqP p k.cut (writesL p) p.fFuncs.xs.length) L' → (∀ g, baseL p g ≤ L' g) → ∀ g, labL s g ≤ L' g) ∧ (s.t = false → ClosedR (rqP p k.cut (writesL p) p.fFuncs.xs.length) (labL s)))
      (fun s => potR ((rqP p k.cut (writesL p) p.fFuncs.xs.length).map (·.g)) 2 (labL s) + if s.t = true then 1 else 0) ⟨fun _ _ => none, xa, List.replicate p.fFuncs.xs.length 0, true⟩ (by repeat (first | exact trivial | refine ⟨rfl, ?_⟩)) ?_ ((PSub.take [0, 0, 0, 0, 0, 0, 0, 0, 0, 0] rfl).trans (PSub.eq ?_)) ?_
    · refine ⟨⟨fun f _ v h => absurd rfl h, fun f v x h => (by cases h), fun x hx => ?_, fun x hx => ?_⟩, by show xa.length = _; rw [hxa, List.length_map], hmkr, fun g => by rw [hbase]; exact Int.le_refl _, fun L' _ h g => by rw [hbase]; exact h g, fun h => (by cases h)⟩
      · have hx : x ∈ xa := hx
        rw [hxa] at hx
        obtain ⟨y, _, rfl⟩ := List.mem_map.1 hx
        unfold holdL; split <;> decide
      · have hx : x ∈ List.replicate p.fFuncs.xs.length (0 : Int) := hx
        rw [List.eq_of_mem_replicate hx]; decide
    · simp only [hkp, hxv, hAa, hca, hAr, hcr, hxc, hxw, hmv, hmc, hC, hNC, hkn, hK]; rfl
    rintro g3 s ⟨hs, hal, hrl, hbs, hls, hcs⟩
    (repeat' (first | refine s_move ?_ | refine s_nil ?_ | (refine k_C ?_; first | refine s_seq ?_ | refine s_region ?_) | (refine k_E ?_; refine e_seq ?_) | (refine k_load ?_; refine s_ldB rfl rfl ?_) | (refine k_fld ?_; refine s_fldB rfl ?_) | refine s_nilck rfl ?_))
    refine s_if rfl ?_ ?_ <;> intro ht
    · (repeat' (first | refine s_move ?_ | (refine k_C ?_; first | refine s_seq ?_ | refine s_region ?_ | refine s_skip ?_ | refine s_block ?_) | (refine k_E ?_; refine e_seq ?_) | (refine k_fld ?_; refine s_fldB rfl ?_) | refine s_nilck rfl ?_))
      refine s_stB (⟨k.p, ⟨k.xv, ⟨k.Aa, k.ca, s.A⟩, ⟨k.Ar, k.cr, s.Rt⟩, k.xc⟩, k.xw, false⟩ : TaintSolver) rfl rfl (by rfl) (by decide) ?_
      (repeat' (first | refine s_move ?_ | refine s_nil ?_ | (refine k_C ?_; first | refine s_seq ?_ | refine s_region ?_ | refine s_block ?_) | (refine k_E ?_; refine e_seq ?_) | (refine k_load ?_; refine s_ldB rfl rfl ?_) | (refine k_fld ?_; refine s_fldB rfl ?_) | (refine k_call ?_; refine s_len rfl ?_)))
      refine s_loop (σ := Nat × LSt) (fun q => [(1, .slice cut.A cut.xs.length cut.c), (2, .pointer (some ⟨b2, 0, none⟩)), (4, .pointer (some ⟨b4, 0, none⟩)), (5, .int .i64 0), (6, .pointer (some ⟨k.b, 0, none⟩)), (118, .slice p.fFuncs.A p.fFuncs.xs.length p.fFuncs.c), (119, .int .i64 p.fFuncs.xs.length), (120, .int .i64 (q.1 : Nat))]) (fun q => [var 78 k.b (⟨k.p, ⟨k.xv, ⟨k.Aa, k.ca, q.2.A⟩, ⟨k.Ar, k.cr, q.2.Rt⟩, k.xc⟩, k.xw, q.2.t⟩ : TaintSolver), own 56 k.xv.A k.xv.xs.length k.xv.c k.xv.xs, own 42 k.Aa q.2.A.length k.ca q.2.A, own 42 k.Ar q.2.Rt.length k.cr q.2.Rt, own 29 k.xc.A k.xc.xs.length k.xc.c k.xc.xs, own 4 k.xw.A k.xw.xs.length k.xw.c k.xw.xs, bagG EL 3 (fun j => (k.K j).length) k.n k.mv q.2.V, bagG EB 3 k.NC k.n k.mc k.C, var 25 b2 p, var 33 b4 (Enc.dflt : TaintLabels)])
        (fun q => q.1 ≤ p.fFuncs.xs.length ∧ Went k (rqP p k.cut (writesL p) q.1) ⟨s.V, s.A, s.Rt, false⟩ q.2) (fun q => p.fFuncs.xs.length - q.1) (0, ⟨s.V, s.A, s.Rt, false⟩) (by repeat (first | exact trivial | refine ⟨rfl, ?_⟩)) ⟨Nat.zero_le _, Went.nil ⟨hs.keys, hs.v, hs.a, hs.r⟩⟩ PSub.refl ?_
      rintro g4 ⟨i, s1⟩ ⟨hi, hW⟩
      dsimp only at hi hW ⊢
      (repeat' (first | refine s_nil ?_ | (refine k_C ?_; first | refine s_seq ?_ | refine s_region ?_) | (refine k_E ?_; refine e_seq ?_) | (refine k_bin ?_; refine s_lss rfl rfl ?_)))
      (first | (refine k_C ?_; (refine s_ifd rfl ?_ ?_ <;> intro hc <;> try (exfalso; omega))))
      rotate_left
      · have hiE : i = p.fFuncs.xs.length := by omega
        subst hiE
        have hrun : (labL s1, s1.t) = runR (rqP p k.cut (writesL p) p.fFuncs.xs.length) (labL s, false) := hW.run
        have h1 : labL s1 = (runR (rqP p k.cut (writesL p) p.fFuncs.xs.length) (labL s, false)).1 := congrArg Prod.fst hrun
        have h2 : s1.t = (runR (rqP p k.cut (writesL p) p.fFuncs.xs.length) (labL s, false)).2 := congrArg Prod.snd hrun
        have hlab2 : ∀ g, labL s g ≤ 2 := fun g => (labL_le hs g).2
        obtain ⟨hp1, hp2⟩ := runR_pot (T := (rqP p k.cut (writesL p) p.fFuncs.xs.length).map (·.g)) (M := 2) (qs := rqP p k.cut (writesL p) p.fFuncs.xs.length) (s := (labL s, false)) (fun q hq => ⟨List.mem_map.2 ⟨q, hq, rfl⟩, (hGood q hq).ub⟩) hlab2
        (repeat' (first | (refine k_C ?_; refine s_exit ?_) | (refine k_E ?_; first | refine e_seq_exit ?_ | refine e_bk_exit ?_ | refine e_bk ?_ | refine e_lp_exit ?_)))
        refine e_lp s1 (by repeat (first | exact trivial | refine ⟨rfl, ?_⟩)) ⟨hW.ok, hW.al.trans hal, hW.rl.trans hrl, fun g => Int.le_trans (hbs g) (by rw [h1]; exact runR_ge (s := (labL s, false)) g), fun L' hL hb g => by rw [h1]; exact runR_le (s := (labL s, false)) (fun q hq => (hGood q hq).m) hL (hls L' hL hb) g, fun h => ?_⟩ ?_ PSub.refl
        · rw [h2] at h
          obtain ⟨_, h4, h5⟩ := runR_no h
          rw [h1, h4]
          exact h5
        · show potR _ 2 (labL s1) + _ < potR _ 2 (labL s) + _
          rw [if_pos ht, h1]
          by_cases h3 : s1.t = true
          · rw [if_pos h3]
            rw [h2] at h3
            have h4 : potR ((rqP p k.cut (writesL p) p.fFuncs.xs.length).map (·.g)) 2 (runR (rqP p k.cut (writesL p) p.fFuncs.xs.length) (labL s, false)).1 < potR ((rqP p k.cut (writesL p) p.fFuncs.xs.length).map (·.g)) 2 (labL s) := (hp2 h3).resolve_left (by simp)
            omega
          · rw [if_neg h3]
            have h4 : potR ((rqP p k.cut (writesL p) p.fFuncs.xs.length).map (·.g)) 2 (runR (rqP p k.cut (writesL p) p.fFuncs.xs.length) (labL s, false)).1 ≤ potR ((rqP p k.cut (writesL p) p.fFuncs.xs.length).map (·.g)) 2 (labL s) := hp1
            omega
      have hil : i < p.fFuncs.xs.length := by omega
      have hnb := (hp.k i hil).b
      (repeat' (first | refine s_move ?_ | refine s_assign ?_ | refine s_nil ?_ | (refine k_C ?_; first | refine s_seq ?_ | refine s_region ?_ | refine s_skip ?_ | refine s_block ?_) | (refine k_E ?_; refine e_seq ?_) | (refine k_load ?_; first | refine s_ldBW rfl rfl ?_ | refine s_ldSA rfl rfl om rfl ?_) | (refine k_idx ?_; refine s_idxS rfl rfl om ?_) | (refine k_store ?_; refine s_stW _ rfl rfl ?_) | (refine s_alloc ?_; intro b)))
      obtain ⟨b15, rfl⟩ : ∃ q, q = b := ⟨_, rfl⟩
      refine s_call0 (reach7_spec (nth p.fFuncs.xs i) ((fewP_pr hp).f i)) rfl (fun w1 H => H.rdD (by infer_instance)) ?_
      rintro r L' ⟨A3, c3, rfl, rfl⟩
      (repeat' (first | refine s_move ?_ | refine s_nil ?_ | (refine k_C ?_; refine s_block ?_) | (refine k_E ?_; refine e_seq ?_) | (refine k_call ?_; refine s_len rfl ?_)))
      refine s_loop (σ := Nat × LSt) (fun q => [(1, .slice cut.A cut.xs.length cut.c), (2, .pointer (some ⟨b2, 0, none⟩)), (4, .pointer (some ⟨b4, 0, none⟩)), (5, .int .i64 0), (6, .pointer (some ⟨k.b, 0, none⟩)), (118, .slice p.fFuncs.A p.fFuncs.xs.length p.fFuncs.c), (119, .int .i64 p.fFuncs.xs.length), (120, .int .i64 (i : Nat)), (14, .int .i64 (i : Nat)), (15, .pointer (some ⟨b15, 0, none⟩)), (126, .slice A3 (nth p.fFuncs.xs i).fBlocks.xs.length c3), (127, .int .i64 (nth p.fFuncs.xs i).fBlocks.xs.length), (128, .int .i64 (q.1 : Nat))])
        (fun q => [var 78 k.b (⟨k.p, ⟨k.xv, ⟨k.Aa, k.ca, q.2.A⟩, ⟨k.Ar, k.cr, q.2.Rt⟩, k.xc⟩, k.xw, q.2.t⟩ : TaintSolver), own 56 k.xv.A k.xv.xs.length k.xv.c k.xv.xs, own 42 k.Aa q.2.A.length k.ca q.2.A, own 42 k.Ar q.2.Rt.length k.cr q.2.Rt, own 29 k.xc.A k.xc.xs.length k.xc.c k.xc.xs, own 4 k.xw.A k.xw.xs.length k.xw.c k.xw.xs, bagG EL 3 (fun j => (k.K j).length) k.n k.mv q.2.V, bagG EB 3 k.NC k.n k.mc k.C, own 4 A3 (nth p.fFuncs.xs i).fBlocks.xs.length c3 (reachB7 (nth p.fFuncs.xs i)), var 46 b15 (nth p.fFuncs.xs i), var 25 b2 p, var 33 b4 (Enc.dflt : TaintLabels)])
        (fun q => q.1 ≤ (nth p.fFuncs.xs i).fBlocks.xs.length ∧ Went k (rqP p k.cut (writesL p) i ++ rqF p k.cut (writesL p) i q.1) ⟨s.V, s.A, s.Rt, false⟩ q.2) (fun q => (nth p.fFuncs.xs i).fBlocks.xs.length - q.1) (0, s1) (by repeat (first | exact trivial | refine ⟨rfl, ?_⟩)) ⟨Nat.zero_le _, by show Went k (_ ++ []) _ _; rw [List.append_nil]; exact hW⟩ (PSub.take [2, 2, 2, 2, 2, 2, 2, 2, 0, 0, 0, 0] rfl) ?_
      clear hW
      rintro g5 ⟨j, s1⟩ ⟨hj, hW⟩
      dsimp only at hj hW ⊢
      have hal1 := hW.al
      have hrl1 := hW.rl
      (repeat' (first | refine s_nil ?_ | (refine k_C ?_; first | refine s_seq ?_ | refine s_region ?_) | (refine k_E ?_; refine e_seq ?_) | (refine k_bin ?_; refine s_lss rfl rfl ?_)))
      (first | (refine k_C ?_; (refine s_ifd rfl ?_ ?_ <;> intro hc <;> try (exfalso; omega))))
      rotate_left
      · have hjE : j = (nth p.fFuncs.xs i).fBlocks.xs.length := by omega
        subst hjE
        (repeat' (first | refine s_move ?_ | refine s_nil ?_ | (refine k_C ?_; first | refine s_region ?_ | refine s_exit ?_) | (refine k_E ?_; first | refine e_seq ?_ | refine e_seq_exit ?_ | refine e_bk_exit ?_ | refine e_bk ?_ | refine e_lp_exit ?_) | (refine k_bin ?_; refine s_add1 rfl rfl om ?_)))
        exact e_lp (i + 1, s1) (by repeat (first | exact trivial | refine ⟨rfl, ?_⟩)) ⟨by show i + 1 ≤ _; omega, by show Went k (rqP _ _ _ (i + 1)) _ _; rw [rqP_succ]; exact hW⟩ (by show _ - _ < _ - _; omega) (PSub.take [0, 0, 0, 0, 0, 0, 0, 0, 2, 2] rfl)
      have hjl : j < (nth p.fFuncs.xs i).fBlocks.xs.length := by omega
      (repeat' (first | refine s_move ?_ | refine s_assign ?_ | refine s_nil ?_ | (refine k_C ?_; first | refine s_seq ?_ | refine s_region ?_ | refine s_skip ?_ | refine s_block ?_ | (refine s_if rfl ?_ ?_ <;> intro hc)) | (refine k_E ?_; first | refine e_seq ?_ | refine e_bk ?_) | (refine k_load ?_; first | refine s_ldB rfl rfl ?_ | refine s_ld rfl om rfl ?_ | refine s_ldSA rfl rfl om rfl ?_) | (refine k_bin ?_; refine s_add1 rfl rfl om ?_) | (refine k_fld ?_; refine s_fldB rfl ?_) | (refine k_idx ?_; first | refine s_idx rfl rfl om ?_ | refine s_idxS rfl rfl om ?_)))
      · have hrn : nth (reachB7 (nth p.fFuncs.xs i)) j = true := by assumption
        have hB := blkOk_of hG hp hkp hkn (fun f => by rw [hK]) hil hjl
        have hal2 : s1.A.length = p.fArrays.xs.length := hal1.trans hal
        have hrl2 : s1.Rt.length = k.n := (hrl1.trans hrl).trans hkn.symm
        refine s_call (L2 := [own 4 A3 (nth p.fFuncs.xs i).fBlocks.xs.length c3 (reachB7 (nth p.fFuncs.xs i)), var 46 b15 (nth p.fFuncs.xs i), var 25 b2 p, var 33 b4 (Enc.dflt : TaintLabels)]) [0, 0, 0, 0, 0, 0, 0, 0] (block12_spec k hkOk s1 hW.ok i (by omega) (nth (nth p.fFuncs.xs i).fBlocks.xs j) (by rw [hal2]; exact hB) (by rw [hkp, hkn]) hrl2) rfl rfl (fun w1 f1 C => ⟨by rw [hkp]; exact C.rd (by infer_instance), C.rd (by infer_instance)⟩) ?_
        rintro r L' ⟨s2, hW2, rfl⟩
        (repeat' (first | refine s_move ?_ | refine s_nil ?_ | (refine k_C ?_; refine s_region ?_) | (refine k_E ?_; first | refine e_seq ?_ | refine e_bk ?_) | (refine k_bin ?_; refine s_add1 rfl rfl om ?_)))
        refine e_lp (j + 1, s2) (by repeat (first | exact trivial | refine ⟨rfl, ?_⟩)) ⟨by show j + 1 ≤ _; omega, ?_⟩ (by show _ - _ < _ - _; omega) PSub.refl
        rw [hkp, hxw] at hW2
        show Went k (_ ++ rqF _ _ _ i (j + 1)) _ _
        rw [rqF_succ, if_pos hrn, ← List.append_assoc]
        exact hW.trans hW2
      · have hrn : nth (reachB7 (nth p.fFuncs.xs i)) j = false := by assumption
        refine e_lp (j + 1, s1) (by repeat (first | exact trivial | refine ⟨rfl, ?_⟩)) ⟨by show j + 1 ≤ _; omega, ?_⟩ (by show _ - _ < _ - _; omega) PSub.refl
        show Went k (_ ++ rqF _ _ _ i (j + 1)) _ _
        rw [rqF_succ, if_neg (by rw [hrn]; decide), List.append_nil]
        exact hW
    have hcut : k.cut = fun f v => (Cf f v).getD false := by unfold TC.cut; rw [hC]
    rw [hcut] at hls hcs
    (repeat' (first | refine s_move ?_ | refine s_assign ?_ | refine s_nil ?_ | (refine k_C ?_; first | refine s_seq ?_ | refine s_region ?_ | refine s_exit ?_ | refine s_ret ?_) | (refine k_E ?_; first | refine e_seq ?_ | refine e_seq_exit ?_ | refine e_bk_exit ?_ | refine e_lp_exit ?_) | (refine k_load ?_; refine s_ldBA rfl (by decide) ?_) | (refine k_fld ?_; refine s_fldB rfl ?_) | (refine k_store ?_; refine s_stW _ rfl rfl ?_) | refine s_nilck rfl ?_))
    exact e_doneCT rfl rfl rfl rfl rfl _ ((PSub.take [1, 1, 1, 1, 2, 2] rfl).trans (PSub.eq (by rw [hK, hkn, hC, hNC]; rfl))) (.inr ⟨rfl, ⟨k.xv, ⟨k.Aa, k.ca, s.A⟩, ⟨k.Ar, k.cr, s.Rt⟩, k.xc⟩, k.mv, k.mc, s, rfl, ⟨hal, hrl, hcs ht, hbs, hls⟩, fun g => labL_le hs g, rfl, rfl, by rw [← hkn]; exact hkOk.vl, fun j hj => hkOk.v j (by omega), by rw [← hkn]; exact hkOk.cl, rfl⟩)
end Go.Proofs.Ytomhieglgfjloaa
