/- Func.Clone, walked. -/
import Derived.Test.YtboicgdblbfbeaaS28
namespace Go.Proofs.Ytboicgdblbfbeaa
set_option linter.unusedVariables false
set_option linter.unusedSimpArgs false
open Go Go.RowKit

section
variable {w0 : World} {f0 : FP} {L : List HP} {a b c : HP}
theorem PSub.mk2 : PSub w0 f0 (a :: b :: L) (star [a, b] :: L) := PSub.mkstar (ps := [a, b])
theorem PSub.blk5 {E sE I sI Ap K X Y Z : HP} {l : List HP} : PSub w0 f0 [E, sE, I, sI, Ap, K, star l, X, Y, Z] [K, star (l ++ [star [Ap, star [I, sI], star [E, sE]]]), X, Y] :=
  (PSub.take (L' := [I, sI, E, sE, Ap, K, star l, X, Y]) [2, 2, 0, 0, 0, 0, 0, 0, 0] rfl).trans ((PSub.mkstar (ps := [I, sI])).trans ((PSub.take (L' := [E, sE, star [I, sI], Ap, K, star l, X, Y]) [1, 1, 0, 0, 0, 0, 0, 0] rfl).trans ((PSub.mkstar (ps := [E, sE])).trans
    ((PSub.take (L' := [Ap, star [I, sI], star [E, sE], K, star l, X, Y]) [2, 1, 0, 0, 0, 0, 0] rfl).trans ((PSub.mkstar (ps := [Ap, star [I, sI], star [E, sE]])).trans ((PSub.take (L' := [star [Ap, star [I, sI], star [E, sE]], star l, K, X, Y]) [0, 1, 0, 0, 0] rfl).trans (PSub.starNew.trans (PSub.take (L' := [K, star (l ++ [star [Ap, star [I, sI], star [E, sE]]]), X, Y]) [1, 0, 0, 0] rfl))))))))
theorem PSub.mk3 : PSub w0 f0 (a :: b :: c :: L) (star [a, b, c] :: L) := PSub.mkstar (ps := [a, b, c])
end
theorem take_set {α : Type} {l : List α} {j : Nat} {u : α} (h : j < l.length) : (l.set j u).take (j + 1) = l.take j ++ [u] := by
  apply List.ext_getElem?
  intro q
  rw [List.getElem?_take]
  split
  · rename_i hq
    by_cases e : q = j
    · subst e; rw [List.getElem?_set_self h, List.getElem?_append_right (by rw [List.length_take]; omega), show q - (l.take q).length = 0 by rw [List.length_take]; omega]; rfl
    · rw [List.getElem?_set_ne (Ne.symm e), List.getElem?_append_left (by rw [List.length_take]; omega), List.getElem?_take_of_lt (by omega)]
  · rename_i hq
    rw [List.getElem?_eq_none (by rw [List.length_append, List.length_take, List.length_singleton]; omega)]
theorem nth_set_ge {α : Type} [Enc α] {l : List α} {j m : Nat} {u : α} (h : j + 1 ≤ m) : nth (l.set j u) m = nth l m := by
  unfold nth; rw [List.getD_eq_getElem?_getD, List.getD_eq_getElem?_getD, List.getElem?_set_ne (by omega)]
theorem map_set_same {α β : Type} {e : α → β} {l l0 : List α} {j : Nat} {u : α} [Enc α] (h : l.map e = l0.map e) (hj : j < l.length) (hu : e u = e (nth l0 j)) : (l.set j u).map e = l0.map e := by
  rw [List.map_set, h, hu]
  have hl : l.length = l0.length := by have := congrArg List.length h; simpa using this
  apply List.ext_getElem?
  intro q
  by_cases e2 : q = j
  · subst e2
    rw [List.getElem?_set_self (by rw [List.length_map]; omega), List.getElem?_map, nth_some (by omega)]; rfl
  · rw [List.getElem?_set_ne (Ne.symm e2)]
set_option maxHeartbeats 8000000 in
theorem cloneF_spec (f : SsaFunc) (hf : FewFn f) : Spec Try.prog 23 [.agg (Enc.enc f).toArray] [] (fun ok w => RdD ok w f) fun r L' => ∃ f', r = .agg (Enc.enc f').toArray ∧ L' = [funP f'] ∧ eF f' = eF f := by
  refine spec_of Try.func23 rfl rfl fun w0 f0 hR => ?_
  have hnb := hf.b
  (repeat' (first | refine s_nil ?_ | (refine k_C ?_; first | refine s_seq ?_ | refine s_region ?_) | (refine k_E ?_; refine e_seq ?_) | (refine k_load ?_; refine s_ldB rfl rfl ?_) | (refine k_fld ?_; refine s_fldB rfl ?_) | (refine s_alloc ?_; intro b) | (refine s_box _ rfl ?_; intro b)))
  rename Nat => b2
  obtain ⟨b1, rfl⟩ : ∃ q, q = b := ⟨_, rfl⟩
  refine s_call [] (clone_Block_spec f.fBlocks (by omega)) rfl rfl (fun w1 f1 C => C.rd (v := f.fBlocks) (by infer_instance)) ?_
  rintro r L' ⟨A, c, rfl, rfl⟩
  (repeat' (first | (refine k_fld ?_; refine s_fldB rfl ?_)))
  refine s_stB (⟨f.fName, ⟨A, c, f.fBlocks.xs⟩⟩ : SsaFunc) rfl rfl (by rfl) (by decide) ?_
  (repeat' (first | refine s_move ?_ | refine s_nil ?_ | (refine k_C ?_; first | refine s_seq ?_ | refine s_region ?_ | refine s_block ?_) | (refine k_E ?_; refine e_seq ?_) | (refine k_load ?_; refine s_ldB rfl rfl ?_) | (refine k_fld ?_; refine s_fldB rfl ?_) | (refine k_call ?_; refine s_len rfl ?_)))
  refine s_loop (σ := Nat × List SsaBlock) (fun q => [(1, .pointer (some ⟨b1, 0, none⟩)), (2, .pointer (some ⟨b2, 0, none⟩)), (12, .slice A f.fBlocks.xs.length c), (13, .int .i64 f.fBlocks.xs.length), (14, .int .i64 (q.1 : Nat))])
    (fun q => [own 44 A f.fBlocks.xs.length c q.2, star ((q.2.take q.1).map blkP), var 47 b2 (Enc.dflt : SsaFunc), var 47 b1 (⟨f.fName, ⟨A, c, f.fBlocks.xs⟩⟩ : SsaFunc)])
    (fun q => q.1 ≤ f.fBlocks.xs.length ∧ q.2.length = f.fBlocks.xs.length ∧ q.2.map eB = f.fBlocks.xs.map eB ∧ ∀ m, q.1 ≤ m → nth q.2 m = nth f.fBlocks.xs m) (fun q => f.fBlocks.xs.length - q.1) (0, f.fBlocks.xs) (by repeat (first | exact trivial | refine ⟨rfl, ?_⟩)) ⟨Nat.zero_le _, rfl, rfl, fun _ _ => rfl⟩ (PSub.starNil.trans (PSub.take [1, 0, 0, 0] rfl)) ?_
  rintro g ⟨k, bl⟩ ⟨hk, hbl, hbe, hbs⟩
  dsimp only at hk hbl hbe hbs ⊢
  (repeat' (first | refine s_nil ?_ | (refine k_C ?_; first | refine s_seq ?_ | refine s_region ?_) | (refine k_E ?_; refine e_seq ?_) | (refine k_bin ?_; refine s_lss rfl rfl ?_)))
  (first | (refine k_C ?_; (refine s_ifd rfl ?_ ?_ <;> intro hc <;> try (exfalso; omega))))
  rotate_left
  · have hkE : k = f.fBlocks.xs.length := by omega
    subst hkE
    rw [List.take_of_length_le (by omega)]
    (repeat' (first | refine s_nil ?_ | (refine k_C ?_; first | refine s_seq ?_ | refine s_region ?_ | refine s_exit ?_ | refine s_ret ?_) | (refine k_E ?_; first | refine e_seq ?_ | refine e_seq_exit ?_ | refine e_bk_exit ?_ | refine e_lp_exit ?_) | (refine k_load ?_; refine s_ldBW rfl rfl ?_) | (refine k_store ?_; refine s_stW _ rfl rfl ?_)))
    refine e_doneC rfl rfl rfl rfl [funP ⟨f.fName, ⟨A, c, bl⟩⟩] ((PSub.take [0, 0] rfl).trans ?_) ⟨⟨f.fName, ⟨A, c, bl⟩⟩, ?_, rfl, ?_⟩
    · have h : PSub w0 f0 ([own 44 A f.fBlocks.xs.length c bl, star (bl.map blkP)] ++ []) [star [own 44 A f.fBlocks.xs.length c bl, star (bl.map blkP)]] := PSub.mkstar
      have e : funP ⟨f.fName, ⟨A, c, bl⟩⟩ = star [own 44 A f.fBlocks.xs.length c bl, star (bl.map blkP)] := by rw [← hbl]; rfl
      rw [e]; exact h
    · show Value.agg [Value.string _, Value.slice _ _ _].toArray = Value.agg [Value.string _, Value.slice _ bl.length _].toArray
      rw [hbl]
    · show (⟨f.fName, ⟨none, 0, bl.map eB⟩⟩ : SsaFunc) = ⟨f.fName, ⟨none, 0, f.fBlocks.xs.map eB⟩⟩
      rw [hbe]
  have hkn : k < f.fBlocks.xs.length := by omega
  have hb0 : nth bl k = nth f.fBlocks.xs k := hbs k (Nat.le_refl _)
  (repeat' (first | refine s_move ?_ | refine s_assign ?_ | refine s_nil ?_ | (refine k_C ?_; first | refine s_seq ?_ | refine s_region ?_ | refine s_skip ?_ | refine s_block ?_) | (refine k_E ?_; refine e_seq ?_) | (refine k_load ?_; refine s_ldA rfl om rfl ?_) | (refine k_idx ?_; refine s_idx rfl rfl om ?_) | (refine k_store ?_; refine s_stW _ rfl rfl ?_) | (refine s_alloc ?_; intro b)))
  rename Nat => b4
  rw [hb0]
  have hbR : RdD (okOf w0 f0) w0 (nth f.fBlocks.xs k) := by infer_instance
  have hbk := hf.k k hkn
  generalize hbf : nth f.fBlocks.xs k = b at hb0 hbR hbk
  have hp := hbk.p
  have hi := hbk.i
  have hw := hbk.w
  refine s_segs [var 44 b4 b] 7 [([0, 1, 3, 4], some 2), ([6], some 5)] foI (by kernel_rfl) (PSub.take [0] rfl) ?_
  refine sg_wr (F := ?F) ?hread ?h1
  case hread =>
    change sO _ _ _ _ _ _ (_ :: _ :: _ :: _ :: []) _ _ _
    (repeat' (first | refine s_nil ?_ | (refine k_load ?_; refine s_ldB rfl rfl ?_) | (refine k_fld ?_; refine s_fldB rfl ?_)))
    exact e_F
  change sO _ _ _ _ _ _ (_ :: []) _ _ _
  refine s_call0 (cloneI_spec b.fParams (by omega)) rfl (fun w1 H => H.rdD (by infer_instance)) ?_
  rintro r L' ⟨Ap, cp, rfl, rfl⟩
  refine s_nil ?_
  refine e_sg (PSub.take [1] rfl) ?_
  refine sg_wr (F := ?F2) ?hread2 ?h2
  case hread2 =>
    change sO _ _ _ _ _ _ (_ :: []) _ _ _
    (repeat' (first | refine s_nil ?_ | (refine k_fld ?_; refine s_fldB rfl ?_)))
    exact e_F
  change sO _ _ _ _ _ _ (_ :: []) _ _ _
  refine s_call0 (clone_Ins_spec b.fIns (by omega)) rfl (fun w1 H => H.rdD (by infer_instance)) ?_
  rintro r L' ⟨Ai, ci, rfl, rfl⟩
  refine s_nil ?_
  refine e_sg (PSub.take [2] rfl) ?_
  refine sg_nil ?_
  change sO _ _ _ _ _ _ (_ :: _ :: _ :: []) _ _ _
  refine s_stB (⟨⟨Ap, cp, b.fParams.xs⟩, b.fIns, b.fEnd⟩ : SsaBlock) rfl rfl (by rfl) (by decide) ?_
  (repeat' (first | (refine k_fld ?_; refine s_fldB rfl ?_)))
  refine s_stB (⟨⟨Ap, cp, b.fParams.xs⟩, ⟨Ai, ci, b.fIns.xs⟩, b.fEnd⟩ : SsaBlock) rfl rfl (by rfl) (by decide) ?_
  (repeat' (first | refine s_move ?_ | refine s_nil ?_ | (refine k_C ?_; first | refine s_seq ?_ | refine s_region ?_ | refine s_block ?_) | (refine k_E ?_; refine e_seq ?_) | (refine k_load ?_; refine s_ldB rfl rfl ?_) | (refine k_fld ?_; refine s_fldB rfl ?_) | (refine k_call ?_; refine s_len rfl ?_)))
  have hil : b.fIns.xs.length ≤ 1000 := by omega
  refine s_loop (σ := Nat × List SsaIns) (fun q => [(1, .pointer (some ⟨b1, 0, none⟩)), (2, .pointer (some ⟨b2, 0, none⟩)), (12, .slice A f.fBlocks.xs.length c), (13, .int .i64 f.fBlocks.xs.length), (14, .int .i64 (k : Nat)), (3, .int .i64 (k : Nat)), (4, .pointer (some ⟨b4, 0, none⟩)), (29, .int .i64 b.fIns.xs.length), (30, .int .i64 (q.1 : Nat))])
    (fun q => [own 34 Ai b.fIns.xs.length ci q.2, star ((q.2.take q.1).map fun i => rowP i.fArgs), own 3 Ap b.fParams.xs.length cp b.fParams.xs, own 44 A f.fBlocks.xs.length c bl, star ((bl.take k).map blkP), var 47 b2 (Enc.dflt : SsaFunc), var 47 b1 (⟨f.fName, ⟨A, c, f.fBlocks.xs⟩⟩ : SsaFunc), var 44 b4 (⟨⟨Ap, cp, b.fParams.xs⟩, ⟨Ai, ci, b.fIns.xs⟩, b.fEnd⟩ : SsaBlock)])
    (fun q => q.1 ≤ b.fIns.xs.length ∧ q.2.length = b.fIns.xs.length ∧ q.2.map eI = b.fIns.xs.map eI ∧ ∀ m, q.1 ≤ m → nth q.2 m = nth b.fIns.xs m) (fun q => b.fIns.xs.length - q.1) (0, b.fIns.xs) (by repeat (first | exact trivial | refine ⟨rfl, ?_⟩)) ⟨Nat.zero_le _, rfl, rfl, fun _ _ => rfl⟩ (PSub.starNil.trans (PSub.take [1, 0, 0, 1, 1, 1, 1, 0] rfl)) ?_
  rintro g ⟨j, il⟩ ⟨hj, hl2, hie, his⟩
  dsimp only at hj hl2 hie his ⊢
  (repeat' (first | refine s_nil ?_ | (refine k_C ?_; first | refine s_seq ?_ | refine s_region ?_) | (refine k_E ?_; refine e_seq ?_) | (refine k_bin ?_; refine s_lss rfl rfl ?_)))
  (first | (refine k_C ?_; (refine s_ifd rfl ?_ ?_ <;> intro hc <;> try (exfalso; omega))))
  rotate_left
  · have hjE : j = b.fIns.xs.length := by omega
    subst hjE
    have e0 : il.take b.fIns.xs.length = il := List.take_of_length_le (by omega)
    rw [e0]
    (repeat' (first | (refine k_C ?_; first | refine s_seq ?_ | refine s_region ?_ | refine s_exit ?_) | (refine k_E ?_; first | refine e_seq ?_ | refine e_seq_exit ?_ | refine e_bk_exit ?_ | refine e_lp_exit ?_) | (refine k_load ?_; refine s_ldB rfl rfl ?_) | (refine k_fld ?_; refine s_fldB rfl ?_)))
    refine s_call0 (clone_Edge_spec b.fEnd.fWays (by omega)) rfl (fun w1 H => H.rdD (by infer_instance)) ?_
    rintro r L' ⟨Aw, cw, rfl, rfl⟩
    (repeat' (first | (refine k_fld ?_; refine s_fldB rfl ?_)))
    refine s_stB (⟨⟨Ap, cp, b.fParams.xs⟩, ⟨Ai, ci, b.fIns.xs⟩, ⟨b.fEnd.fKind, b.fEnd.fVal, ⟨Aw, cw, b.fEnd.fWays.xs⟩, b.fEnd.fTrap⟩⟩ : SsaBlock) rfl rfl (by rfl) (by decide) ?_
    (repeat' (first | refine s_move ?_ | refine s_nil ?_ | (refine k_C ?_; first | refine s_seq ?_ | refine s_region ?_ | refine s_block ?_) | (refine k_E ?_; refine e_seq ?_) | (refine k_load ?_; refine s_ldB rfl rfl ?_) | (refine k_fld ?_; refine s_fldB rfl ?_) | (refine k_call ?_; refine s_len rfl ?_)))
    refine s_loop (σ := Nat × List SsaEdge) (fun q => [(1, .pointer (some ⟨b1, 0, none⟩)), (2, .pointer (some ⟨b2, 0, none⟩)), (12, .slice A f.fBlocks.xs.length c), (13, .int .i64 f.fBlocks.xs.length), (14, .int .i64 (k : Nat)), (3, .int .i64 (k : Nat)), (4, .pointer (some ⟨b4, 0, none⟩)), (55, .int .i64 b.fEnd.fWays.xs.length), (56, .int .i64 (q.1 : Nat))])
      (fun q => [own 38 Aw b.fEnd.fWays.xs.length cw q.2, star ((q.2.take q.1).map fun i => rowP i.fArgs), own 34 Ai b.fIns.xs.length ci il, star (il.map fun i => rowP i.fArgs), own 3 Ap b.fParams.xs.length cp b.fParams.xs, own 44 A f.fBlocks.xs.length c bl, star ((bl.take k).map blkP), var 47 b2 (Enc.dflt : SsaFunc), var 47 b1 (⟨f.fName, ⟨A, c, f.fBlocks.xs⟩⟩ : SsaFunc), var 44 b4 (⟨⟨Ap, cp, b.fParams.xs⟩, ⟨Ai, ci, b.fIns.xs⟩, ⟨b.fEnd.fKind, b.fEnd.fVal, ⟨Aw, cw, b.fEnd.fWays.xs⟩, b.fEnd.fTrap⟩⟩ : SsaBlock)])
      (fun q => q.1 ≤ b.fEnd.fWays.xs.length ∧ q.2.length = b.fEnd.fWays.xs.length ∧ q.2.map eW = b.fEnd.fWays.xs.map eW ∧ ∀ m, q.1 ≤ m → nth q.2 m = nth b.fEnd.fWays.xs m) (fun q => b.fEnd.fWays.xs.length - q.1) (0, b.fEnd.fWays.xs) (by repeat (first | exact trivial | refine ⟨rfl, ?_⟩)) ⟨Nat.zero_le _, rfl, rfl, fun _ _ => rfl⟩ (PSub.starNil.trans (PSub.take [1, 0, 0, 0, 0, 0, 0, 0, 0, 0] rfl)) ?_
    rintro g ⟨m, wl⟩ ⟨hm, hw2, hwe, hws⟩
    dsimp only at hm hw2 hwe hws ⊢
    (repeat' (first | refine s_nil ?_ | (refine k_C ?_; first | refine s_seq ?_ | refine s_region ?_) | (refine k_E ?_; refine e_seq ?_) | (refine k_bin ?_; refine s_lss rfl rfl ?_)))
    (first | (refine k_C ?_; (refine s_ifd rfl ?_ ?_ <;> intro hc <;> try (exfalso; omega))))
    rotate_left
    · have hmE : m = b.fEnd.fWays.xs.length := by omega
      subst hmE
      have e1 : wl.take b.fEnd.fWays.xs.length = wl := List.take_of_length_le (by omega)
      rw [e1]
      have eV : var 44 b4 (⟨⟨Ap, cp, b.fParams.xs⟩, ⟨Ai, ci, b.fIns.xs⟩, ⟨b.fEnd.fKind, b.fEnd.fVal, ⟨Aw, cw, b.fEnd.fWays.xs⟩, b.fEnd.fTrap⟩⟩ : SsaBlock) = var 44 b4 (⟨⟨Ap, cp, b.fParams.xs⟩, ⟨Ai, ci, il⟩, ⟨b.fEnd.fKind, b.fEnd.fVal, ⟨Aw, cw, wl⟩, b.fEnd.fTrap⟩⟩ : SsaBlock) := by
        unfold var
        congr 1
        show [Value.slice _ _ _, Value.slice _ b.fIns.xs.length _, _, _, Value.slice _ b.fEnd.fWays.xs.length _, _] = [Value.slice _ _ _, Value.slice _ il.length _, _, _, Value.slice _ wl.length _, _]
        rw [hl2, hw2]
      rw [eV]
      (repeat' (first | refine s_move ?_ | refine s_nil ?_ | (refine k_C ?_; first | refine s_region ?_ | refine s_exit ?_) | (refine k_E ?_; first | refine e_seq ?_ | refine e_seq_exit ?_ | refine e_bk_exit ?_ | refine e_bk ?_ | refine e_lp_exit ?_) | (refine k_load ?_; first | refine s_ldB rfl rfl ?_ | refine s_ldBW rfl rfl ?_) | (refine k_bin ?_; refine s_add1 rfl rfl om ?_) | (refine k_fld ?_; refine s_fldB rfl ?_) | (refine k_idx ?_; refine s_idx rfl rfl om ?_) | (refine k_store ?_; refine s_st _ rfl rfl om ?_)))
      have eqB : eB (⟨⟨Ap, cp, b.fParams.xs⟩, ⟨Ai, ci, il⟩, ⟨b.fEnd.fKind, b.fEnd.fVal, ⟨Aw, cw, wl⟩, b.fEnd.fTrap⟩⟩ : SsaBlock) = eB b := by
        show (⟨⟨none, 0, b.fParams.xs⟩, ⟨none, 0, il.map eI⟩, ⟨b.fEnd.fKind, b.fEnd.fVal, ⟨none, 0, wl.map eW⟩, b.fEnd.fTrap⟩⟩ : SsaBlock) = _
        rw [hie, hwe]; rfl
      have eB4 : blkP (⟨⟨Ap, cp, b.fParams.xs⟩, ⟨Ai, ci, il⟩, ⟨b.fEnd.fKind, b.fEnd.fVal, ⟨Aw, cw, wl⟩, b.fEnd.fTrap⟩⟩ : SsaBlock) = star [own 3 Ap b.fParams.xs.length cp b.fParams.xs, star [own 34 Ai b.fIns.xs.length ci il, star (il.map fun i => rowP i.fArgs)], star [own 38 Aw b.fEnd.fWays.xs.length cw wl, star (wl.map fun i => rowP i.fArgs)]] := by
        unfold blkP insP waysP; dsimp only; rw [hl2, hw2]; rfl
      refine e_lp (k + 1, bl.set k (⟨⟨Ap, cp, b.fParams.xs⟩, ⟨Ai, ci, il⟩, ⟨b.fEnd.fKind, b.fEnd.fVal, ⟨Aw, cw, wl⟩, b.fEnd.fTrap⟩⟩ : SsaBlock)) (by repeat (first | exact trivial | refine ⟨rfl, ?_⟩)) ⟨by show k + 1 ≤ _; omega, by show (bl.set k _).length = _; rw [List.length_set, hbl], map_set_same hbe (by omega) (by rw [hbf]; exact eqB), fun q hq => (nth_set_ge hq).trans (hbs q (by have : k + 1 ≤ q := hq; omega))⟩ (by show _ - _ < _ - _; omega) ?_
      have eT : ((bl.set k (⟨⟨Ap, cp, b.fParams.xs⟩, ⟨Ai, ci, il⟩, ⟨b.fEnd.fKind, b.fEnd.fVal, ⟨Aw, cw, wl⟩, b.fEnd.fTrap⟩⟩ : SsaBlock)).take (k + 1)).map blkP = (bl.take k).map blkP ++ [star [own 3 Ap b.fParams.xs.length cp b.fParams.xs, star [own 34 Ai b.fIns.xs.length ci il, star (il.map fun i => rowP i.fArgs)], star [own 38 Aw b.fEnd.fWays.xs.length cw wl, star (wl.map fun i => rowP i.fArgs)]]] := by
        rw [take_set (by omega), List.map_append, List.map_singleton, eB4]
      dsimp only
      rw [eT]
      exact PSub.blk5
    have hmn : m < b.fEnd.fWays.xs.length := by omega
    have hw0 : nth wl m = nth b.fEnd.fWays.xs m := hws m (Nat.le_refl _)
    have hwa := (hbk.wa m hmn)
    (repeat' (first | refine s_move ?_ | refine s_assign ?_ | refine s_nil ?_ | (refine k_C ?_; first | refine s_seq ?_ | refine s_region ?_ | refine s_skip ?_ | refine s_block ?_) | (refine k_E ?_; refine e_seq ?_)))
    refine s_segs [own 38 Aw b.fEnd.fWays.xs.length cw wl, var 44 b4 (⟨⟨Ap, cp, b.fParams.xs⟩, ⟨Ai, ci, b.fIns.xs⟩, ⟨b.fEnd.fKind, b.fEnd.fVal, ⟨Aw, cw, b.fEnd.fWays.xs⟩, b.fEnd.fTrap⟩⟩ : SsaBlock)] 12 [([0, 1, 2, 3, 4, 5, 6, 7, 8, 9, 10], some 11)] foI (by kernel_rfl) (PSub.take [0, 8] rfl) ?_
    refine sg_wr (F := ?F4) ?hread4 ?h4
    case hread4 =>
      change sO _ _ _ _ _ _ (_ :: _ :: _ :: _ :: _ :: _ :: _ :: _ :: _ :: _ :: _ :: []) _ _ _
      (repeat' (first | refine s_move ?_ | refine s_nil ?_ | (refine k_load ?_; first | refine s_ldB rfl rfl ?_ | refine s_ldF rfl om rfl ?_) | (refine k_fld ?_; first | refine s_fld rfl ?_ | refine s_fldB rfl ?_) | (refine k_idx ?_; refine s_idx rfl rfl om ?_)))
      exact e_F
    change sO _ _ _ _ _ _ (_ :: []) _ _ _
    rw [hw0]
    refine s_call0 (cloneI_spec (nth b.fEnd.fWays.xs m).fArgs (by omega)) rfl (fun w1 H => H.rdD (by infer_instance)) ?_
    rintro r L' ⟨Aj, cj, rfl, rfl⟩
    refine s_nil ?_
    refine e_sg (PSub.take [1, 9] rfl) ?_
    refine sg_nil ?_
    change sO _ _ _ _ _ _ (_ :: _ :: _ :: []) _ _ _
    (repeat' (first | (refine k_fld ?_; refine s_fld rfl ?_) | (refine k_idx ?_; refine s_idx rfl rfl om ?_)))
    refine s_stF (⟨(nth wl m).fTo, ⟨Aj, cj, (nth b.fEnd.fWays.xs m).fArgs.xs⟩⟩ : SsaEdge) rfl rfl (by rfl) (by decide) (by omega) ?_
    (repeat' (first | refine s_move ?_ | refine s_nil ?_ | (refine k_C ?_; refine s_region ?_) | (refine k_E ?_; first | refine e_seq ?_ | refine e_bk ?_) | (refine k_bin ?_; refine s_add1 rfl rfl om ?_)))
    refine e_lp (m + 1, wl.set m ⟨(nth wl m).fTo, ⟨Aj, cj, (nth b.fEnd.fWays.xs m).fArgs.xs⟩⟩) (by repeat (first | exact trivial | refine ⟨rfl, ?_⟩)) ⟨by show m + 1 ≤ _; omega, by show (wl.set m _).length = _; rw [List.length_set, hw2], map_set_same hwe (by omega) (by rw [hw0]; rfl), fun q hq => (nth_set_ge hq).trans (hws q (by have : m + 1 ≤ q := hq; omega))⟩ (by show _ - _ < _ - _; omega) ?_
    have eT : ((wl.set m ⟨(nth wl m).fTo, ⟨Aj, cj, (nth b.fEnd.fWays.xs m).fArgs.xs⟩⟩).take (m + 1)).map (fun i => rowP i.fArgs) = (wl.take m).map (fun i => rowP i.fArgs) ++ [own 3 Aj (nth b.fEnd.fWays.xs m).fArgs.xs.length cj (nth b.fEnd.fWays.xs m).fArgs.xs] := by rw [take_set (by omega), List.map_append]; rfl
    dsimp only
    rw [eT]
    exact (PSub.take [0, 1, 0, 0, 0, 0, 0, 0, 0, 0, 0] rfl).trans (PSub.starNew.trans (PSub.take [1, 0, 0, 0, 0, 0, 0, 0, 0, 0] rfl))
  have hjn : j < b.fIns.xs.length := by omega
  have hi0 : nth il j = nth b.fIns.xs j := his j (Nat.le_refl _)
  have hia := (hbk.ia j hjn)
  (repeat' (first | refine s_move ?_ | refine s_assign ?_ | refine s_nil ?_ | (refine k_C ?_; first | refine s_seq ?_ | refine s_region ?_ | refine s_skip ?_ | refine s_block ?_) | (refine k_E ?_; refine e_seq ?_)))
  refine s_segs [own 34 Ai b.fIns.xs.length ci il, var 44 b4 (⟨⟨Ap, cp, b.fParams.xs⟩, ⟨Ai, ci, b.fIns.xs⟩, b.fEnd⟩ : SsaBlock)] 10 [([0, 1, 2, 3, 4, 5, 6, 7, 8], some 9)] foI (by kernel_rfl) (PSub.take [0, 6] rfl) ?_
  refine sg_wr (F := ?F3) ?hread3 ?h3
  case hread3 =>
    change sO _ _ _ _ _ _ (_ :: _ :: _ :: _ :: _ :: _ :: _ :: _ :: _ :: []) _ _ _
    (repeat' (first | refine s_move ?_ | refine s_nil ?_ | (refine k_load ?_; first | refine s_ldB rfl rfl ?_ | refine s_ldF rfl om rfl ?_) | (refine k_fld ?_; first | refine s_fld rfl ?_ | refine s_fldB rfl ?_) | (refine k_idx ?_; refine s_idx rfl rfl om ?_)))
    exact e_F
  change sO _ _ _ _ _ _ (_ :: []) _ _ _
  rw [hi0]
  refine s_call0 (cloneI_spec (nth b.fIns.xs j).fArgs (by omega)) rfl (fun w1 H => H.rdD (by infer_instance)) ?_
  rintro r L' ⟨Aj, cj, rfl, rfl⟩
  refine s_nil ?_
  refine e_sg (PSub.take [1, 7] rfl) ?_
  refine sg_nil ?_
  change sO _ _ _ _ _ _ (_ :: _ :: _ :: []) _ _ _
  (repeat' (first | (refine k_fld ?_; refine s_fld rfl ?_) | (refine k_idx ?_; refine s_idx rfl rfl om ?_)))
  refine s_stF (⟨(nth il j).fOp, (nth il j).fDst, ⟨Aj, cj, (nth b.fIns.xs j).fArgs.xs⟩, (nth il j).fNum, (nth il j).fBin, (nth il j).fArr, (nth il j).fFn⟩ : SsaIns) rfl rfl (by rfl) (by decide) (by omega) ?_
  (repeat' (first | refine s_move ?_ | refine s_nil ?_ | (refine k_C ?_; refine s_region ?_) | (refine k_E ?_; first | refine e_seq ?_ | refine e_bk ?_) | (refine k_bin ?_; refine s_add1 rfl rfl om ?_)))
  refine e_lp (j + 1, il.set j ⟨(nth il j).fOp, (nth il j).fDst, ⟨Aj, cj, (nth b.fIns.xs j).fArgs.xs⟩, (nth il j).fNum, (nth il j).fBin, (nth il j).fArr, (nth il j).fFn⟩) (by repeat (first | exact trivial | refine ⟨rfl, ?_⟩)) ⟨by show j + 1 ≤ _; omega, by show (il.set j _).length = _; rw [List.length_set, hl2], map_set_same hie (by omega) (by rw [hi0]; rfl), fun q hq => (nth_set_ge hq).trans (his q (by have : j + 1 ≤ q := hq; omega))⟩ (by show _ - _ < _ - _; omega) ?_
  have eT : ((il.set j ⟨(nth il j).fOp, (nth il j).fDst, ⟨Aj, cj, (nth b.fIns.xs j).fArgs.xs⟩, (nth il j).fNum, (nth il j).fBin, (nth il j).fArr, (nth il j).fFn⟩).take (j + 1)).map (fun i => rowP i.fArgs) = (il.take j).map (fun i => rowP i.fArgs) ++ [own 3 Aj (nth b.fIns.xs j).fArgs.xs.length cj (nth b.fIns.xs j).fArgs.xs] := by rw [take_set (by omega), List.map_append]; rfl
  dsimp only
  rw [eT]
  exact (PSub.take [0, 1, 0, 0, 0, 0, 0, 0, 0] rfl).trans (PSub.starNew.trans (PSub.take [1, 0, 0, 0, 0, 0, 0, 0] rfl))

theorem progP.rd {ok ok' : FP} {w w' : World} {g : FP} {s s' : SsaProg} (h : (progP s').sat w g) (hok : ∀ b, g b → ok b) (he : eP s' = eP s) (hr : Dp.rd ok' w' s) : Dp.rd ok w s' := by
  obtain ⟨g0, h0, k0⟩ := star_at h (i := 0) rfl
  obtain ⟨g1, h1, k1⟩ := star_at h (i := 1) rfl
  obtain ⟨g2, h2, k2⟩ := star_at h (i := 2) rfl
  obtain ⟨r1, r2, r3⟩ := hr
  have e1 : s'.fArrays.xs = s.fArrays.xs := by have q := congrArg (fun p => p.fArrays.xs) he; exact q
  have e3 : s'.fMain = s.fMain := by have q := congrArg SsaProg.fMain he; exact q
  refine ⟨(own_rd h0 (fun b hb => hok b (k0 b hb)) fun x hx => ?_).h, (own_rd h1 (fun b hb => hok b (k1 b hb)) fun x hx => ?_).h, ?_⟩
  · have := r1.2 x (e1 ▸ hx)
    exact ⟨trivial, this.2⟩
  · obtain ⟨g3, h3, k3⟩ := star_mem h2 hx
    obtain ⟨y, hy, e⟩ := map_mate (by have q := congrArg (fun f => f.fFuncs.xs) he; exact q) hx
    exact funP.rd h3 (fun b hb => hok b (k2 b (k3 b hb))) trivial e (r2.2 y hy)
  · rw [e3]; exact r3
set_option maxHeartbeats 8000000 in
theorem cloneP_spec (p : SsaProg) (hp : FewPr p) : Spec Try.prog 11 [.agg (Enc.enc p).toArray] [] (fun ok w => RdD ok w p) fun r L' => ∃ p', r = .agg (Enc.enc p').toArray ∧ L' = [progP p'] ∧ eP p' = eP p := by
  refine spec_of Try.func11 rfl rfl fun w0 f0 hR => ?_
  have hpa := hp.a
  have hpf := hp.f
  (repeat' (first | refine s_nil ?_ | (refine k_C ?_; first | refine s_seq ?_ | refine s_region ?_) | (refine k_E ?_; refine e_seq ?_) | (refine k_load ?_; refine s_ldB rfl rfl ?_) | (refine k_fld ?_; refine s_fldB rfl ?_) | (refine s_alloc ?_; intro b) | (refine s_box _ rfl ?_; intro b)))
  rename Nat => b2
  obtain ⟨b1, rfl⟩ : ∃ q, q = b := ⟨_, rfl⟩
  refine s_call0 (clone_Array_spec p.fArrays (by omega)) rfl (fun w1 H => H.rdD (by infer_instance)) ?_
  rintro r L' ⟨Aa, ca, rfl, rfl⟩
  (repeat' (first | (refine k_fld ?_; refine s_fldB rfl ?_)))
  refine s_stB (⟨⟨Aa, ca, p.fArrays.xs⟩, p.fFuncs, p.fMain⟩ : SsaProg) rfl rfl (by rfl) (by decide) ?_
  (repeat' (first | refine s_nil ?_ | (refine k_C ?_; first | refine s_seq ?_ | refine s_region ?_) | (refine k_E ?_; refine e_seq ?_) | (refine k_load ?_; refine s_ldB rfl rfl ?_) | (refine k_fld ?_; refine s_fldB rfl ?_)))
  refine s_call0 (clone_Func_spec p.fFuncs (by omega)) rfl (fun w1 H => H.rdD (by infer_instance)) ?_
  rintro r L' ⟨A, c, rfl, rfl⟩
  (repeat' (first | (refine k_fld ?_; refine s_fldB rfl ?_)))
  refine s_stB (⟨⟨Aa, ca, p.fArrays.xs⟩, ⟨A, c, p.fFuncs.xs⟩, p.fMain⟩ : SsaProg) rfl rfl (by rfl) (by decide) ?_
  (repeat' (first | refine s_move ?_ | refine s_nil ?_ | (refine k_C ?_; first | refine s_seq ?_ | refine s_region ?_ | refine s_block ?_) | (refine k_E ?_; refine e_seq ?_) | (refine k_load ?_; refine s_ldB rfl rfl ?_) | (refine k_fld ?_; refine s_fldB rfl ?_) | (refine k_call ?_; refine s_len rfl ?_)))
  refine s_loop (σ := Nat × List SsaFunc) (fun q => [(1, .pointer (some ⟨b1, 0, none⟩)), (2, .pointer (some ⟨b2, 0, none⟩)), (14, .int .i64 p.fFuncs.xs.length), (15, .int .i64 (q.1 : Nat))])
    (fun q => [own 47 A p.fFuncs.xs.length c q.2, star ((q.2.take q.1).map funP), own 29 Aa p.fArrays.xs.length ca p.fArrays.xs, var 26 b2 (Enc.dflt : SsaProg), var 26 b1 (⟨⟨Aa, ca, p.fArrays.xs⟩, ⟨A, c, p.fFuncs.xs⟩, p.fMain⟩ : SsaProg)])
    (fun q => q.1 ≤ p.fFuncs.xs.length ∧ q.2.length = p.fFuncs.xs.length ∧ q.2.map eF = p.fFuncs.xs.map eF ∧ ∀ m, q.1 ≤ m → nth q.2 m = nth p.fFuncs.xs m) (fun q => p.fFuncs.xs.length - q.1) (0, p.fFuncs.xs) (by repeat (first | exact trivial | refine ⟨rfl, ?_⟩)) ⟨Nat.zero_le _, rfl, rfl, fun _ _ => rfl⟩ (PSub.starNil.trans (PSub.take [1, 0, 0, 0, 0] rfl)) ?_
  rintro g ⟨k, fl⟩ ⟨hk, hfl, hfe, hfs⟩
  dsimp only at hk hfl hfe hfs ⊢
  (repeat' (first | refine s_nil ?_ | (refine k_C ?_; first | refine s_seq ?_ | refine s_region ?_) | (refine k_E ?_; refine e_seq ?_) | (refine k_bin ?_; refine s_lss rfl rfl ?_)))
  (first | (refine k_C ?_; (refine s_ifd rfl ?_ ?_ <;> intro hc <;> try (exfalso; omega))))
  rotate_left
  · have hkE : k = p.fFuncs.xs.length := by omega
    subst hkE
    have e0 : fl.take p.fFuncs.xs.length = fl := List.take_of_length_le (by omega)
    rw [e0]
    (repeat' (first | refine s_nil ?_ | (refine k_C ?_; first | refine s_seq ?_ | refine s_region ?_ | refine s_exit ?_ | refine s_ret ?_) | (refine k_E ?_; first | refine e_seq ?_ | refine e_seq_exit ?_ | refine e_bk_exit ?_ | refine e_lp_exit ?_) | (refine k_load ?_; refine s_ldBW rfl rfl ?_) | (refine k_store ?_; refine s_stW _ rfl rfl ?_)))
    have e2 : progP (⟨⟨Aa, ca, p.fArrays.xs⟩, ⟨A, c, fl⟩, p.fMain⟩ : SsaProg) = star [own 29 Aa p.fArrays.xs.length ca p.fArrays.xs, own 47 A p.fFuncs.xs.length c fl, star (fl.map funP)] := by unfold progP; dsimp only; rw [hfl]
    refine e_doneC rfl rfl rfl rfl [progP (⟨⟨Aa, ca, p.fArrays.xs⟩, ⟨A, c, fl⟩, p.fMain⟩ : SsaProg)] ((PSub.take [2, 0, 0] rfl).trans (PSub.mk3.trans (PSub.eq (congrArg (fun X => [X]) e2.symm)))) ⟨(⟨⟨Aa, ca, p.fArrays.xs⟩, ⟨A, c, fl⟩, p.fMain⟩ : SsaProg), ?_, rfl, ?_⟩
    · show Value.agg [Value.slice _ _ _, Value.slice _ p.fFuncs.xs.length _, _].toArray = Value.agg [Value.slice _ _ _, Value.slice _ fl.length _, _].toArray
      rw [hfl]
    · show (⟨⟨none, 0, p.fArrays.xs⟩, ⟨none, 0, fl.map eF⟩, p.fMain⟩ : SsaProg) = _
      rw [hfe]; rfl
  have hkn : k < p.fFuncs.xs.length := by omega
  have hb0 : nth fl k = nth p.fFuncs.xs k := hfs k (Nat.le_refl _)
  have hbk := hp.k k hkn
  (repeat' (first | refine s_move ?_ | refine s_assign ?_ | refine s_nil ?_ | (refine k_C ?_; first | refine s_seq ?_ | refine s_region ?_ | refine s_skip ?_ | refine s_block ?_) | (refine k_E ?_; refine e_seq ?_)))
  refine s_segs [own 47 A p.fFuncs.xs.length c fl, var 26 b1 (⟨⟨Aa, ca, p.fArrays.xs⟩, ⟨A, c, p.fFuncs.xs⟩, p.fMain⟩ : SsaProg)] 9 [([0, 1, 2, 3, 4, 5, 6, 7], some 8)] foI (by kernel_rfl) (PSub.take [0, 3] rfl) ?_
  refine sg_wr (F := ?F3) ?hread3 ?h3
  case hread3 =>
    change sO _ _ _ _ _ _ (_ :: _ :: _ :: _ :: _ :: _ :: _ :: _ :: []) _ _ _
    (repeat' (first | refine s_move ?_ | refine s_nil ?_ | (refine k_load ?_; first | refine s_ldB rfl rfl ?_ | refine s_ldA rfl om rfl ?_) | (refine k_fld ?_; refine s_fldB rfl ?_) | (refine k_idx ?_; refine s_idx rfl rfl om ?_)))
    exact e_F
  change sO _ _ _ _ _ _ (_ :: []) _ _ _
  rw [hb0]
  refine s_call0 (cloneF_spec (nth p.fFuncs.xs k) hbk) rfl (fun w1 H => H.rdD (by infer_instance)) ?_
  rintro r L' ⟨f', rfl, rfl, hfe'⟩
  refine s_nil ?_
  refine e_sg (PSub.take [1, 4] rfl) ?_
  refine sg_nil ?_
  change sO _ _ _ _ _ _ (_ :: _ :: []) _ _ _
  (repeat' (first | refine s_move ?_ | refine s_nil ?_ | (refine k_C ?_; refine s_region ?_) | (refine k_E ?_; first | refine e_seq ?_ | refine e_bk ?_) | (refine k_bin ?_; refine s_add1 rfl rfl om ?_) | (refine k_idx ?_; refine s_idx rfl rfl om ?_) | (refine k_store ?_; refine s_st _ rfl rfl om ?_)))
  refine e_lp (k + 1, fl.set k f') (by repeat (first | exact trivial | refine ⟨rfl, ?_⟩)) ⟨by show k + 1 ≤ _; omega, by show (fl.set k _).length = _; rw [List.length_set, hfl], map_set_same hfe (by omega) hfe', fun q hq => (nth_set_ge hq).trans (hfs q (by have : k + 1 ≤ q := hq; omega))⟩ (by show _ - _ < _ - _; omega) ?_
  have eT : ((fl.set k f').take (k + 1)).map funP = (fl.take k).map funP ++ [funP f'] := by rw [take_set (by omega), List.map_append]; rfl
  dsimp only
  rw [eT]
  exact (PSub.take [0, 1, 0, 0, 0, 0] rfl).trans (PSub.starNew.trans (PSub.take [1, 0, 0, 0, 0] rfl))

theorem fewFE {f f' : SsaFunc} (he : eF f' = eF f) (h : FewF f) : FewF f' := by
  have hb : ∀ g : SsaFunc, (eF g).fBlocks.xs.length = g.fBlocks.xs.length := fun g => lenE
  have h1 : ∀ (g : SsaFunc) i, (nth (eF g).fBlocks.xs i).fParams.xs.length = (nth g.fBlocks.xs i).fParams.xs.length := fun g i => by rw [blkAt]; rfl
  have h2 : ∀ (g : SsaFunc) i, (nth (eF g).fBlocks.xs i).fIns.xs.length = (nth g.fBlocks.xs i).fIns.xs.length := fun g i => by rw [blkAt]; show (List.map eI _).length = _; rw [List.length_map]
  have h3 : ∀ (g : SsaFunc) i, (nth (eF g).fBlocks.xs i).fEnd.fWays.xs.length = (nth g.fBlocks.xs i).fEnd.fWays.xs.length := fun g i => by rw [blkAt]; show (List.map eW _).length = _; rw [List.length_map]
  exact ⟨by rw [← hb, he, hb]; exact h.b, fun i => by rw [← h1, he, h1]; exact h.p i, fun i => by rw [← h2, he, h2]; exact h.i i, fun i => by rw [← h3, he, h3]; exact h.w i⟩
theorem fewPE {p p' : SsaProg} (he : eP p' = eP p) (h : FewP p) : FewP p' := by
  have e1 : p'.fArrays.xs = p.fArrays.xs := by have q := congrArg (fun p => p.fArrays.xs) he; exact q
  have e2 : p'.fFuncs.xs.map eF = p.fFuncs.xs.map eF := by have q := congrArg (fun p => p.fFuncs.xs) he; exact q
  have e3 : p'.fFuncs.xs.length = p.fFuncs.xs.length := by have := congrArg List.length e2; simpa using this
  refine ⟨by rw [e1]; exact h.a, by rw [e3]; exact h.n, fun i => fewFE ?_ (h.f i)⟩
  rw [← nthF, ← nthF, e2]
theorem fewP_pr {p : SsaProg} (h : FewPr p) : FewP p := by
  have ha := h.a
  have hf := h.f
  refine ⟨by omega, by omega, fun i => ?_⟩
  by_cases hi : i < p.fFuncs.xs.length
  · have hk := h.k i hi
    have hb := hk.b
    have hd : ∀ j, (nth (nth p.fFuncs.xs i).fBlocks.xs j).fParams.xs.length ≤ 1000 ∧ (nth (nth p.fFuncs.xs i).fBlocks.xs j).fIns.xs.length ≤ 1000 ∧ (nth (nth p.fFuncs.xs i).fBlocks.xs j).fEnd.fWays.xs.length ≤ 1000 := fun j => by
      by_cases hj : j < (nth p.fFuncs.xs i).fBlocks.xs.length
      · have q := hk.k j hj
        have q1 := q.p
        have q2 := q.i
        have q3 := q.w
        exact ⟨by omega, by omega, by omega⟩
      · rw [nth_out (i := j) (by omega)]
        exact ⟨Nat.zero_le _, Nat.zero_le _, Nat.zero_le _⟩
    exact ⟨by omega, fun j => (hd j).1, fun j => (hd j).2.1, fun j => (hd j).2.2⟩
  · rw [nth_out (by omega)]
    exact fewF_of rfl

end Go.Proofs.Ytboicgdblbfbeaa
