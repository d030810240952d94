/- Layer 7: Reach. -/
import Derived.Test.YtfplmdjlgjgbgaaS7
namespace Go.Proofs.Ytfplmdjlgjgbgaa
set_option linter.unusedVariables false
set_option linter.unusedSimpArgs false
open Go Go.RowKit

section
variable {P : Program} {n : Nat} {w0 w : World} {f0 : FP} {QC : Exit → Fr → World → Prop} {f : Fr} {L : List HP} {t ty : TypeId} {pos : String} {after : Array Edge}
variable {α : Type} {I : Enc α} {sz bytes : Nat}
/-- A region in drawn order: what only reads, one block that is laid beside it, and behind them a chain. -/
theorem s_mixA {id : Nat} {l : List Oper} {F : Fr} {d : Tmp} (N : Nat) (rs : List Nat) (k : Nat) [hE : Elt P t α I sz bytes] (hk : opsAt l [k] = [⟨some d, .alloc t, ty, pos, after, none⟩]) (hm : P.follows .mixedOrders = true) (hB : mixB .any n l N rs [k] = true)
    (hread : sO P n w0 f0 l.toArray true (opsAt l rs) (QCF F) f L) (hrest : ∀ b, sO P n w0 f0 l.toArray false (l.drop N) QC (up F d (.pointer (some ⟨b, 0, none⟩))) (var (I := I) t b I.dflt :: L)) (hd : Nat.blt d n = true := by rfl) : sC P n w0 f0 (.region id l.toArray true) QC f L := by
  intro w H
  refine wC_mix (J := fun w' => St w0 f0 L w' ∨ ∃ X, St w0 f0 (X :: L) w') N rs [k] F hm hB (.inl (H.idle (Step.drew w _))) (fun w' H' => ?_) ?_
  · rcases H' with H' | ⟨X, H'⟩
    · exact hread w' H'
    · exact hread w' (H'.drop 0)
  · rw [hk]
    obtain ⟨zv, hTI, hz⟩ := hE.ex
    simp only [wJ]
    refine o_alloc hTI.zero (H.idle (Step.drew w _)) (fun b w' H' => ?_) hd
    rw [hz] at H'
    refine o_nil ⟨.inr ⟨_, H'.head⟩, ?_⟩
    exact hrest b w' H'.head
end

def goW7 (n : Nat) : List SsaEdge → List Bool → List Int → List Bool × List Int
  | [], out, todo => (out, todo)
  | w :: ws, out, todo => if 0 ≤ w.fTo ∧ w.fTo < n ∧ nth out w.fTo.toNat = false then goW7 n ws (out.set w.fTo.toNat true) (todo ++ [w.fTo]) else goW7 n ws out todo
def cntF7 (out : List Bool) : Nat := out.countP (! ·)
def reachL7 (f : SsaFunc) : Nat → List Bool → List Int → List Bool
  | k + 1, out, t :: todo => let s := goW7 f.fBlocks.xs.length (nth f.fBlocks.xs t.toNat).fEnd.fWays.xs out todo; reachL7 f k s.1 s.2
  | _, out, _ => out
def reachB7 (f : SsaFunc) : List Bool :=
  if f.fBlocks.xs.length = 0 then [] else reachL7 f f.fBlocks.xs.length ((List.replicate f.fBlocks.xs.length false).set 0 true) [0]
theorem goW7_app {n : Nat} {a b : List SsaEdge} {out : List Bool} {todo : List Int} : goW7 n (a ++ b) out todo = goW7 n b (goW7 n a out todo).1 (goW7 n a out todo).2 := by
  induction a generalizing out todo with
  | nil => rfl
  | cons w a ih =>
    simp only [List.cons_append, goW7]
    split <;> exact ih
theorem cntF7_set {out : List Bool} {i : Nat} (h : i < out.length) (h0 : nth out i = false) : cntF7 (out.set i true) + 1 = cntF7 out := by
  unfold cntF7
  rw [nth_get h] at h0
  rw [List.countP_set h]
  have : 0 < out.countP (! ·) := List.countP_pos_iff.2 ⟨out[i], List.getElem_mem h, by simp [h0]⟩
  simp [h0]
  omega
theorem cntF7_rep {n : Nat} : cntF7 (List.replicate n false) = n := by
  unfold cntF7
  rw [List.countP_replicate]; rfl

set_option maxHeartbeats 2000000 in
theorem reach7_spec (f : SsaFunc) (hf : FewF f) : Spec Try.prog 15 [.agg (Enc.enc f).toArray] [] (fun ok w => RdD ok w f) fun r L' => ∃ A c, r = .slice A f.fBlocks.xs.length c ∧ L' = [own 4 A f.fBlocks.xs.length c (reachB7 f)] := by
  refine spec_of Try.func15 rfl rfl fun w0 f0 hR => ?_
  have hb := hf.b
  (repeat' (first | refine s_move ?_ | refine s_assign ?_ | refine s_nil ?_ | (refine k_C ?_; first | refine s_seq ?_ | refine s_region ?_ | refine s_skip ?_ | refine s_block ?_ | refine s_ret ?_ | (refine s_ifd rfl ?_ ?_ <;> intro hc <;> try (exfalso; omega))) | (refine k_E ?_; first | refine e_seq ?_ | refine e_seq_ret ?_) | (refine k_load ?_; refine s_ldB rfl rfl ?_) | (refine k_bin ?_; refine s_eql rfl rfl ?_) | (refine k_fld ?_; refine s_fldB rfl ?_) | (refine k_idx ?_; refine s_idx rfl rfl om ?_) | (refine k_store ?_; refine s_st _ rfl rfl om ?_) | (refine k_call ?_; refine s_len rfl ?_) | (refine s_box _ rfl ?_; intro b) | (refine s_make rfl rfl om ?_; intro b) | (refine s_lit [_] rfl (by decide) rfl ?_; intro b)))
  · have h0 : f.fBlocks.xs = [] := List.eq_nil_of_length_eq_zero (by omega)
    refine e_done rfl rfl _ (PSub.take [0] rfl) ⟨_, _, rfl, ?_⟩
    rw [reachB7, if_pos (by omega), h0]; rfl
  rename_i b1 bo
  obtain ⟨b4, rfl⟩ : ∃ q, q = b := ⟨_, rfl⟩
  refine s_loop (σ := List Bool × List Int × Option Addr × Nat × Nat) (fun s => [(1, .pointer (some ⟨b1, 0, none⟩)), (3, .slice (some ⟨bo, 0, none⟩) f.fBlocks.xs.length f.fBlocks.xs.length), (4, .slice s.2.2.1 s.2.2.2.1 s.2.2.2.2)])
    (fun s => [own 3 s.2.2.1 s.2.2.2.1 s.2.2.2.2 s.2.1, own 4 (some ⟨bo, 0, none⟩) f.fBlocks.xs.length f.fBlocks.xs.length s.1, var 38 b1 f])
    (fun s => s.2.2.2.1 = s.2.1.length ∧ s.1.length = f.fBlocks.xs.length ∧ (∀ t ∈ s.2.1, 0 ≤ t ∧ t < f.fBlocks.xs.length) ∧ cntF7 s.1 + s.2.1.length ≤ f.fBlocks.xs.length ∧ reachL7 f (cntF7 s.1 + s.2.1.length) s.1 s.2.1 = reachB7 f)
    (fun s => cntF7 s.1 + s.2.2.2.1) ((List.replicate f.fBlocks.xs.length false).set 0 true, [0], some ⟨b4, 0, none⟩, 1, 1) (by repeat (first | exact trivial | refine ⟨rfl, ?_⟩)) ?_ PSub.refl ?_
  · have hcn : cntF7 ((List.replicate f.fBlocks.xs.length false).set 0 true) + 1 = f.fBlocks.xs.length := by
      rw [cntF7_set (i := 0) (out := List.replicate f.fBlocks.xs.length false) (by simp; omega) (nth_rep (α := Bool)), cntF7_rep]
    refine ⟨rfl, by simp, by simp; omega, by show cntF7 ((List.replicate f.fBlocks.xs.length false).set 0 true) + 1 ≤ _; omega, ?_⟩
    show reachL7 f (_ + 1) _ _ = _
    rw [hcn, reachB7, if_neg (by omega)]
  rintro g ⟨out, todo, A4, l4, c4⟩ ⟨j1, j2, j3, j4, j5⟩
  dsimp only at j1 j2 j3 j4 j5 ⊢
  subst j1
  (repeat' (first | refine s_move ?_ | refine s_assign ?_ | refine s_nil ?_ | (refine k_C ?_; first | refine s_seq ?_ | refine s_region ?_ | refine s_skip ?_ | refine s_block ?_ | refine s_exit ?_ | refine s_ret ?_ | (refine s_ifd rfl ?_ ?_ <;> intro hc <;> try (exfalso; omega))) | (refine k_E ?_; first | refine e_seq ?_ | refine e_seq_exit ?_ | refine e_bk_exit ?_ | refine e_lp_exit ?_) | (refine k_bin ?_; refine s_gtr rfl rfl ?_) | (refine k_call ?_; refine s_len rfl ?_)))
  · cases todo with
    | nil => exfalso; simp at hc
    | cons t todo =>
    have ht : 0 ≤ nth (t :: todo) 0 ∧ nth (t :: todo) 0 < f.fBlocks.xs.length := j3 t (by simp)
    have hlt : 0 < (t :: todo).length := by simp
    refine s_mixA (F := ?F) 8 [0, 1, 2, 3, 4, 5, 6] 7 rfl foI (by kernel_rfl) ?hread ?hrest
    case hread =>
      change sO _ _ _ _ _ _ (_ :: _ :: _ :: _ :: _ :: _ :: _ :: []) _ _ _
      (repeat' (first | refine s_move ?_ | refine s_nil ?_ | (refine k_load ?_; first | refine s_ldB rfl rfl ?_ | refine s_ld rfl om rfl ?_ | refine s_ldSA rfl rfl om rfl ?_) | (refine k_fld ?_; refine s_fldB rfl ?_) | (refine k_idx ?_; first | refine s_idx rfl rfl om ?_ | refine s_idxSI rfl rfl om om ?_)))
      exact e_F
    case hrest =>
      intro b5
      change sO _ _ _ _ _ _ (_ :: []) _ _ _
      (repeat' (first | refine s_move ?_ | refine s_assign ?_ | refine s_nil ?_ | (refine k_C ?_; first | refine s_seq ?_ | refine s_region ?_ | refine s_block ?_) | (refine k_E ?_; refine e_seq ?_) | (refine k_load ?_; refine s_ldB rfl rfl ?_) | (refine k_fld ?_; refine s_fldB rfl ?_) | (refine k_store ?_; refine s_stW _ rfl rfl ?_) | (refine k_call ?_; refine s_len rfl ?_) | (refine s_cutL rfl rfl om ?_; intro A)))
      refine s_loop (σ := Nat × List Bool × List Int × Option Addr × Nat × Nat) (fun s => [(1, .pointer (some ⟨b1, 0, none⟩)), (3, .slice (some ⟨bo, 0, none⟩) f.fBlocks.xs.length f.fBlocks.xs.length), (4, .slice s.2.2.2.1 s.2.2.2.2.1 s.2.2.2.2.2), (33, .slice (nth f.fBlocks.xs t.toNat).fEnd.fWays.A (nth f.fBlocks.xs t.toNat).fEnd.fWays.xs.length (nth f.fBlocks.xs t.toNat).fEnd.fWays.c), (34, .int .i64 (nth f.fBlocks.xs t.toNat).fEnd.fWays.xs.length), (35, .int .i64 s.1)])
        (fun s => [own 3 s.2.2.2.1 s.2.2.2.2.1 s.2.2.2.2.2 s.2.2.1, own 4 (some ⟨bo, 0, none⟩) f.fBlocks.xs.length f.fBlocks.xs.length s.2.1, var 38 b1 f])
        (fun s => s.1 ≤ (nth f.fBlocks.xs t.toNat).fEnd.fWays.xs.length ∧ s.2.2.2.2.1 = s.2.2.1.length ∧ s.2.1.length = f.fBlocks.xs.length ∧ (∀ t ∈ s.2.2.1, 0 ≤ t ∧ t < f.fBlocks.xs.length) ∧ cntF7 s.2.1 + s.2.2.1.length = cntF7 out + todo.length ∧ goW7 f.fBlocks.xs.length ((nth f.fBlocks.xs t.toNat).fEnd.fWays.xs.take s.1) out todo = (s.2.1, s.2.2.1))
        (fun s => (nth f.fBlocks.xs t.toNat).fEnd.fWays.xs.length - s.1) (0, out, todo, A, (t :: todo).length - 1, c4 - 1) (by repeat (first | exact trivial | refine ⟨rfl, ?_⟩)) ⟨Nat.zero_le _, rfl, j2, fun x hx => j3 x (by simp [hx]), rfl, rfl⟩ (PSub.take [1, 1, 1] rfl) ?_
      rintro g2 ⟨j, out2, todo2, A2, l2, c2⟩ ⟨i1, i2, i3, i4, i5, i6⟩
      dsimp only at i1 i2 i3 i4 i5 i6 ⊢
      subst i2
      have hw := hf.w t.toNat
      have i7 : todo2.length ≤ 1000 := by simp only [List.length_cons] at j4; omega
      (repeat' (first | refine s_move ?_ | refine s_assign ?_ | refine s_nil ?_ | (refine k_C ?_; first | refine s_seq ?_ | refine s_region ?_ | refine s_skip ?_ | refine s_block ?_ | refine s_exit ?_ | refine s_iff rfl ?_ | (refine s_ifd rfl ?_ ?_ <;> intro hc <;> try (exfalso; omega)) | (refine s_if rfl ?_ ?_ <;> intro hc)) | (refine k_E ?_; first | refine e_seq ?_ | refine e_seq_exit ?_ | refine e_bk_exit ?_ | refine e_bk ?_ | refine e_lp_exit ?_) | (refine k_load ?_; first | refine s_ldB rfl rfl ?_ | refine s_ld rfl om rfl ?_ | refine s_ldSA rfl rfl om rfl ?_) | (refine k_bin ?_; first | refine s_lss rfl rfl ?_ | refine s_add1 rfl rfl om ?_ | refine s_geq rfl rfl ?_) | (refine k_fld ?_; refine s_fldB rfl ?_) | (refine k_idx ?_; first | refine s_idxI rfl rfl om om ?_ | refine s_idxS rfl rfl om ?_) | (refine k_store ?_; first | refine s_stW _ rfl rfl ?_ | refine s_st _ rfl rfl om ?_) | (refine k_call ?_; refine s_len rfl ?_) | (refine k_guard ?_; first | refine s_on rfl rfl ?_ | refine s_off rfl rfl rfl rfl ?_ | (refine s_casesd rfl rfl ?_ ?_ <;> intro hc <;> try (exfalso; omega))) | (refine s_alloc ?_; intro b) | refine s_not rfl ?_ | refine s_pick rfl ?_ | (refine s_app1 _ (fun _ => rfl) rfl om ?_; intro v A c)))
      · have hno : nth out2 (nth (nth f.fBlocks.xs t.toNat).fEnd.fWays.xs j).fTo.toNat = false := by simpa using hc
        refine e_lp (j + 1, out2.set (nth (nth f.fBlocks.xs t.toNat).fEnd.fWays.xs j).fTo.toNat true, todo2 ++ [(nth (nth f.fBlocks.xs t.toNat).fEnd.fWays.xs j).fTo], A, todo2.length + 1, c) (by repeat (first | exact trivial | refine ⟨rfl, ?_⟩)) ⟨by show j + 1 ≤ _; omega, by simp, by simp [i3], ?_, ?_, ?_⟩ (by show _ - _ < _ - _; omega) (PSub.take [1, 1, 1] rfl)
        · intro x hx
          rcases List.mem_append.1 hx with hx | hx
          · exact i4 x hx
          · simp at hx; subst hx; exact ⟨by omega, by omega⟩
        · have := cntF7_set (out := out2) (i := (nth (nth f.fBlocks.xs t.toNat).fEnd.fWays.xs j).fTo.toNat) (by omega) hno
          show cntF7 (out2.set (nth (nth f.fBlocks.xs t.toNat).fEnd.fWays.xs j).fTo.toNat true) + (todo2 ++ [(nth (nth f.fBlocks.xs t.toNat).fEnd.fWays.xs j).fTo]).length = _
          rw [List.length_append, List.length_singleton]; omega
        · show goW7 _ (_root_.List.take (j + 1) _) _ _ = _
          rw [← take_nth (by omega), goW7_app, i6]
          unfold goW7
          rw [if_pos ⟨by omega, by omega, hno⟩]; rfl
      · have hno : nth out2 (nth (nth f.fBlocks.xs t.toNat).fEnd.fWays.xs j).fTo.toNat = true := by simpa using hc
        refine e_lp (j + 1, out2, todo2, A2, todo2.length, c2) (by repeat (first | exact trivial | refine ⟨rfl, ?_⟩)) ⟨by show j + 1 ≤ _; omega, rfl, i3, i4, i5, ?_⟩ (by show _ - _ < _ - _; omega) (PSub.take [1, 1, 1] rfl)
        show goW7 _ (_root_.List.take (j + 1) _) _ _ = _
        rw [← take_nth (by omega), goW7_app, i6]
        unfold goW7
        rw [if_neg (by rintro ⟨_, _, h⟩; rw [hno] at h; cases h)]; rfl
      · refine e_lp (j + 1, out2, todo2, A2, todo2.length, c2) (by repeat (first | exact trivial | refine ⟨rfl, ?_⟩)) ⟨by show j + 1 ≤ _; omega, rfl, i3, i4, i5, ?_⟩ (by show _ - _ < _ - _; omega) (PSub.take [1, 1, 1] rfl)
        show goW7 _ (_root_.List.take (j + 1) _) _ _ = _
        rw [← take_nth (by omega), goW7_app, i6]
        unfold goW7
        rw [if_neg (by rintro ⟨_, _, h⟩; omega)]; rfl
      · refine e_lp (j + 1, out2, todo2, A2, todo2.length, c2) (by repeat (first | exact trivial | refine ⟨rfl, ?_⟩)) ⟨by show j + 1 ≤ _; omega, rfl, i3, i4, i5, ?_⟩ (by show _ - _ < _ - _; omega) (PSub.take [1, 1, 1] rfl)
        show goW7 _ (_root_.List.take (j + 1) _) _ _ = _
        rw [← take_nth (by omega), goW7_app, i6]
        unfold goW7
        rw [if_neg (by rintro ⟨_, _, h⟩; omega)]; rfl
      · have hj' : j = (nth f.fBlocks.xs t.toNat).fEnd.fWays.xs.length := by omega
        subst hj'
        rw [List.take_length] at i6
        simp only [List.length_cons] at j4
        refine e_lp (out2, todo2, A2, todo2.length, c2) (by repeat (first | exact trivial | refine ⟨rfl, ?_⟩)) ⟨rfl, i3, i4, by show cntF7 out2 + todo2.length ≤ _; omega, ?_⟩ (by show cntF7 out2 + todo2.length < cntF7 out + (todo.length + 1); omega) PSub.refl
        show reachL7 f (cntF7 out2 + todo2.length) out2 todo2 = _
        rw [i5, ← j5]
        show _ = reachL7 f (cntF7 out + todo.length + 1) out (t :: todo)
        rw [reachL7, i6]
  · have h0 : todo = [] := List.eq_nil_of_length_eq_zero (by omega)
    subst h0
    refine e_done rfl rfl _ (PSub.take [1] rfl) ⟨_, _, rfl, ?_⟩
    rw [← j5]
    have : ∀ k, reachL7 f k out [] = out := fun k => by cases k <;> rfl
    rw [this]; rfl
end Go.Proofs.Ytfplmdjlgjgbgaa
