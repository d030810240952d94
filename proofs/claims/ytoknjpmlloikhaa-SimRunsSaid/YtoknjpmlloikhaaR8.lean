/- Layer 8: a step, walked. -/
import Derived.Test.YtoknjpmlloikhaaR7
namespace Go.Proofs.Ytoknjpmlloikhaa
set_option linter.unusedVariables false
set_option linter.unusedSimpArgs false
open Go Go.RowKit

theorem finishM_mem {p : SsaProg} {m : Mch} {f : Frm} {e : SsaEnd} : (finishM p m f e).mem = m.mem := by
  unfold finishM
  split
  · unfold leaveM; split
    · rfl
    · dsimp only; split <;> rfl
  split
  · rfl
  split <;> rfl
set_option maxHeartbeats 4000000 in
theorem step_spec (bm : Nat) (p : SsaProg) (hp : FewPr p) (hG : GoodP p) (m : Mch) (hm : MchOk p m) (h0 : 0 < m.fs.length) (hst : m.steps ≤ 10000000) (Af : Option Addr) (cf : Nat) (mi : Nat → Nat) (Al : Option Addr) (cl : Nat) (Am : Option Addr) (cm : Nat) (ss : List (Sl Int)) (hss : ss.map (·.xs) = m.mem) :
    Spec Try.prog 17 [.pointer (some ⟨bm, 0, none⟩)] [var 70 bm (⟨p, ⟨Af, cf, frsOf m.fs mi⟩, ⟨m.val, m.trap, ⟨Al, cl, m.leaks⟩, m.steps, m.deep, ⟨Am, cm, ss⟩⟩, m.fin⟩ : SimMachine), own 90 Af (frsOf m.fs mi).length cf (frsOf m.fs mi), bagG EW 3 (UF p m.fs) m.fs.length mi (fun j => (frmN m.fs j).vals), own 86 Al m.leaks.length cl m.leaks, own 45 Am ss.length cm ss, rws 2 ss] (fun ok w => RdD ok w p)
      fun v L' => (stepM p m = none ∧ v = .bool false) ∨ ∃ m2, stepM p m = some m2 ∧ v = .bool true ∧ ∃ Af2 cf2 mi2 Al2 cl2 ss2, ss2.map (·.xs) = m2.mem ∧ L' = [var 70 bm (⟨p, ⟨Af2, cf2, frsOf m2.fs mi2⟩, ⟨m2.val, m2.trap, ⟨Al2, cl2, m2.leaks⟩, m2.steps, m2.deep, ⟨Am, cm, ss2⟩⟩, m2.fin⟩ : SimMachine), own 90 Af2 (frsOf m2.fs mi2).length cf2 (frsOf m2.fs mi2), bagG EW 3 (UF p m2.fs) m2.fs.length mi2 (fun j => (frmN m2.fs j).vals), own 86 Al2 m2.leaks.length cl2 m2.leaks, own 45 Am ss2.length cm ss2, rws 2 ss2] := by
  refine spec_of Try.func17 rfl rfl fun w0 f0 hR => ?_
  have hfrl : (frsOf m.fs mi).length = m.fs.length := by unfold frsOf; rw [List.length_mapIdx]
  have hfr := hm.fr (m.fs.length - 1) (by omega)
  have hnf : nth (frsOf m.fs mi) (m.fs.length - 1) = ⟨(frmN m.fs (m.fs.length - 1)).fn, (frmN m.fs (m.fs.length - 1)).block, (frmN m.fs (m.fs.length - 1)).at_, ⟨some (mi (m.fs.length - 1))⟩, (frmN m.fs (m.fs.length - 1)).dst⟩ := frsOf_nth (by omega)
  have hq1 : (nth (frsOf m.fs mi) (m.fs.length - 1)).fFn = ((frmN m.fs (m.fs.length - 1)).fn : Int) := by rw [hnf]
  have hq2 : (nth (frsOf m.fs mi) (m.fs.length - 1)).fBlock = ((frmN m.fs (m.fs.length - 1)).block : Int) := by rw [hnf]
  have hq3 : (nth p.fFuncs.xs (nth (frsOf m.fs mi) (m.fs.length - 1)).fFn.toNat).fBlocks.xs.length = (nth p.fFuncs.xs (frmN m.fs (m.fs.length - 1)).fn).fBlocks.xs.length := by rw [hq1]; rfl
  have hfn := hfr.fn
  have hbk := hfr.blk
  have hat := hfr.at_
  have e0 : topM m = some (frmN m.fs (m.fs.length - 1)) := by
    unfold topM frmN
    simp [List.getElem?_eq_getElem (show m.fs.length - 1 < m.fs.length by omega)]
  have hb1 : 0 < (frsOf m.fs mi).length := by omega
  have hfw := hm.few
  (repeat' (first | refine s_move ?_ | refine s_assign ?_ | refine s_nil ?_ | (refine k_C ?_; first | refine s_seq ?_ | refine s_region ?_ | refine s_stillP foI rfl (by kernel_rfl) ?_) | (refine k_E ?_; refine e_seq ?_) | (refine k_load ?_; refine s_ldB rfl rfl ?_) | (refine k_bin ?_; refine s_sub64 rfl rfl om ?_) | (refine k_fld ?_; refine s_fldB rfl ?_) | (refine k_idx ?_; refine s_idxI rfl rfl om om ?_) | (refine k_call ?_; refine s_len rfl ?_) | refine s_nilck rfl ?_))
  rw [show (((frsOf m.fs mi).length : Int) - 1).toNat = m.fs.length - 1 by omega]
  refine s_draw _ 19 foI (by kernel_rfl) PSub.refl fun hD => ?_
  refine d_rd (fuel := 2) #[true, true, true, true, true, true, true, true, true, true, true, true, true, true, true, true, true, true, false, false] [0, 1, 2, 3, 4, 5, 6, 7, 8, 9, 10, 11, 12, 13, 14, 15, 16, 17] ?F1 hD (by kernel_rfl) ?hr1 ?hn1
  case hr1 =>
    change sO _ _ _ _ _ _ (_ :: _ :: _ :: _ :: _ :: _ :: _ :: _ :: _ :: _ :: _ :: _ :: _ :: _ :: _ :: _ :: _ :: _ :: []) _ _ _
    (repeat' (first | refine s_move ?_ | refine s_nil ?_ | (refine k_load ?_; first | refine s_ldB rfl rfl ?_ | refine s_ld rfl om rfl ?_ | refine s_ldF rfl om rfl ?_ | refine s_ldSF rfl rfl om rfl ?_ | refine s_ldSA rfl rfl om rfl ?_) | (refine k_fld ?_; first | refine s_fld rfl ?_ | refine s_fldB rfl ?_) | (refine k_idx ?_; refine s_idxSI rfl rfl om om ?_) | refine s_nilck rfl ?_))
    exact e_F
  refine d_all (fuel := 1) [18] (by kernel_rfl) ⟨?_, trivial⟩
  change sO _ _ _ _ _ _ (_ :: []) _ _ _
  (repeat' (first | refine s_nil ?_ | (refine s_alloc ?_; intro b)))
  refine e_sd (PSub.take [1, 1, 1, 1, 1, 1] rfl) ?_
  refine d_end hD (by kernel_rfl) rfl ?_
  change sO _ _ _ _ _ _ (_ :: []) _ _ _
  rw [hnf]
  refine s_stW (nth (nth p.fFuncs.xs (frmN m.fs (m.fs.length - 1)).fn).fBlocks.xs (frmN m.fs (m.fs.length - 1)).block) rfl rfl ?_
  (repeat' (first | refine s_move ?_ | refine s_nil ?_ | (refine k_C ?_; first | refine s_seq ?_ | refine s_region ?_ | refine s_stillP foI rfl (by kernel_rfl) ?_ | refine s_skip ?_ | (refine s_ifd rfl ?_ ?_ <;> intro hc <;> try (exfalso; omega))) | (refine k_E ?_; refine e_seq ?_) | (refine k_load ?_; first | refine s_ldB rfl rfl ?_ | refine s_ldBA rfl (by decide) ?_ | refine s_ldF rfl om rfl ?_) | (refine k_bin ?_; refine s_eql rfl rfl ?_) | (refine k_fld ?_; first | refine s_fld rfl ?_ | refine s_fldB rfl ?_) | (refine k_call ?_; refine s_len rfl ?_) | refine s_nilck rfl ?_))
  · have hat2 : (frmN m.fs (m.fs.length - 1)).at_ = (nth (nth p.fFuncs.xs (frmN m.fs (m.fs.length - 1)).fn).fBlocks.xs (frmN m.fs (m.fs.length - 1)).block).fIns.xs.length := by
      rw [hnf] at hc
      have hc : ((frmN m.fs (m.fs.length - 1)).at_ : Int) = ((nth (nth p.fFuncs.xs (frmN m.fs (m.fs.length - 1)).fn).fBlocks.xs (frmN m.fs (m.fs.length - 1)).block).fIns.xs.length : Int) := hc
      omega
    have hend := hG.ends _ hfn _ hbk
    refine s_call (L2 := [var 60 b (nth (nth p.fFuncs.xs (frmN m.fs (m.fs.length - 1)).fn).fBlocks.xs (frmN m.fs (m.fs.length - 1)).block), own 45 Am ss.length cm ss, rws 2 ss]) [1, 1, 1, 1] (finish_spec bm p hp hG m hm h0 hst Af cf mi Al cl ⟨Am, cm, ss⟩ (nth (nth p.fFuncs.xs (frmN m.fs (m.fs.length - 1)).fn).fBlocks.xs (frmN m.fs (m.fs.length - 1)).block).fEnd hend) rfl rfl (fun w1 f1 C => ⟨C.rd (by infer_instance), C.rd (by infer_instance)⟩) ?_
    rintro v L' ⟨Al1, cl1, rfl⟩
    (repeat' (first | refine s_assign ?_ | refine s_nil ?_ | (refine k_C ?_; first | refine s_seq ?_ | refine s_region ?_ | refine s_ret ?_) | (refine k_E ?_; first | refine e_seq ?_ | refine e_seq_ret ?_)))
    refine e_done rfl rfl _ (PSub.take [0, 0, 0, 0, 1, 1] rfl) (.inr ⟨finishM p m (frmN m.fs (m.fs.length - 1)) (nth (nth p.fFuncs.xs (frmN m.fs (m.fs.length - 1)).fn).fBlocks.xs (frmN m.fs (m.fs.length - 1)).block).fEnd, by unfold stepM; rw [e0]; exact if_pos hat2, rfl, Af, cf, mi, Al1, cl1, ss, ?_, rfl⟩)
    exact hss.trans finishM_mem.symm
  · have hne : ¬ (frmN m.fs (m.fs.length - 1)).at_ = (nth (nth p.fFuncs.xs (frmN m.fs (m.fs.length - 1)).fn).fBlocks.xs (frmN m.fs (m.fs.length - 1)).block).fIns.xs.length := by
      rw [hnf] at hc
      have hc : ¬ ((frmN m.fs (m.fs.length - 1)).at_ : Int) = ((nth (nth p.fFuncs.xs (frmN m.fs (m.fs.length - 1)).fn).fBlocks.xs (frmN m.fs (m.fs.length - 1)).block).fIns.xs.length : Int) := hc
      omega
    have hil := ((hp.k _ hfn).k _ hbk).i
    rw [hnf]
    (repeat' (first | (refine k_bin ?_; refine s_add1 rfl rfl om ?_) | (refine k_fld ?_; refine s_fld rfl ?_) | refine s_nilck rfl ?_))
    have hla : ((frmN m.fs (m.fs.length - 1)).at_ : Int) + 1 = (((frmN m.fs (m.fs.length - 1)).at_ + 1 : Nat) : Int) := by omega
    refine s_stF (j := m.fs.length - 1) (o := 2) (⟨(frmN m.fs (m.fs.length - 1)).fn, (frmN m.fs (m.fs.length - 1)).block, ((frmN m.fs (m.fs.length - 1)).at_ + 1 : Nat), ⟨some (mi (m.fs.length - 1))⟩, (frmN m.fs (m.fs.length - 1)).dst⟩ : SimFrame) rfl rfl (by rw [hnf, ← hla]; rfl) (by decide) (by omega) ?_
    have hns : nth ((frsOf m.fs mi).set (m.fs.length - 1) ⟨(frmN m.fs (m.fs.length - 1)).fn, (frmN m.fs (m.fs.length - 1)).block, ((frmN m.fs (m.fs.length - 1)).at_ + 1 : Nat), ⟨some (mi (m.fs.length - 1))⟩, (frmN m.fs (m.fs.length - 1)).dst⟩) (m.fs.length - 1) = ⟨(frmN m.fs (m.fs.length - 1)).fn, (frmN m.fs (m.fs.length - 1)).block, ((frmN m.fs (m.fs.length - 1)).at_ + 1 : Nat), ⟨some (mi (m.fs.length - 1))⟩, (frmN m.fs (m.fs.length - 1)).dst⟩ := by rw [nth_set (by omega), if_pos rfl]
    have hns2 : (nth ((frsOf m.fs mi).set (m.fs.length - 1) ⟨(frmN m.fs (m.fs.length - 1)).fn, (frmN m.fs (m.fs.length - 1)).block, ((frmN m.fs (m.fs.length - 1)).at_ + 1 : Nat), ⟨some (mi (m.fs.length - 1))⟩, (frmN m.fs (m.fs.length - 1)).dst⟩) (m.fs.length - 1)).fAt = (((frmN m.fs (m.fs.length - 1)).at_ + 1 : Nat) : Int) := by rw [hns]
    obtain ⟨m2, hm2⟩ : ∃ x, x = m.top { (frmN m.fs (m.fs.length - 1)) with at_ := (frmN m.fs (m.fs.length - 1)).at_ + 1 } := ⟨_, rfl⟩
    (repeat' (first | refine s_nil ?_ | (refine k_C ?_; refine s_seq ?_) | (refine k_E ?_; refine e_seq ?_)))
    refine s_tail (F := ?F2) 11 [0, 1, 2, 3, 4, 5, 6, 7, 8, 9, 10] foI (by kernel_rfl) ?hr2 ?hn2
    case hr2 =>
      change sO _ _ _ _ _ _ (_ :: _ :: _ :: _ :: _ :: _ :: _ :: _ :: _ :: _ :: _ :: []) _ _ _
      (repeat' (first | refine s_move ?_ | refine s_nil ?_ | (refine k_load ?_; first | refine s_ldB rfl rfl ?_ | refine s_ldF rfl om rfl ?_ | refine s_ldSA rfl rfl om rfl ?_) | (refine k_bin ?_; refine s_sub64 rfl rfl om ?_) | (refine k_fld ?_; first | refine s_fld rfl ?_ | refine s_fldB rfl ?_) | (refine k_idx ?_; refine s_idxSI rfl rfl om om ?_) | refine s_nilck rfl ?_))
      exact e_F
    case hn2 =>
      change sO _ _ _ _ _ _ (_ :: _ :: []) _ _ _
      have hf2 : m2.fs = m.fs.set (m.fs.length - 1) { (frmN m.fs (m.fs.length - 1)) with at_ := (frmN m.fs (m.fs.length - 1)).at_ + 1 } := by rw [hm2]; rfl
      have hl2 : m2.fs.length = m.fs.length := by rw [hf2, List.length_set]
      have hj2 : frmN m2.fs (m2.fs.length - 1) = { (frmN m.fs (m.fs.length - 1)) with at_ := (frmN m.fs (m.fs.length - 1)).at_ + 1 } := by rw [hl2, hf2, frmN_set (by omega), if_pos rfl]
      have hfs : frsOf m2.fs mi = (frsOf m.fs mi).set (m.fs.length - 1) ⟨(frmN m.fs (m.fs.length - 1)).fn, (frmN m.fs (m.fs.length - 1)).block, ((frmN m.fs (m.fs.length - 1)).at_ + 1 : Nat), ⟨some (mi (m.fs.length - 1))⟩, (frmN m.fs (m.fs.length - 1)).dst⟩ := by rw [hf2, frsOf_set]
      have hbg : bagG EW 3 (UF p m.fs) m.fs.length mi (fun j => (frmN m.fs j).vals) = bagG EW 3 (UF p m2.fs) m2.fs.length mi (fun j => (frmN m2.fs j).vals) := by
        rw [hl2, hf2]
        refine bagG_congr fun j hj => ?_
        unfold UF
        rw [frmN_set (by omega)]
        by_cases e : j = m.fs.length - 1
        · subst e; rw [if_pos rfl]; exact ⟨rfl, rfl, rfl⟩
        · rw [if_neg e]; exact ⟨rfl, rfl, rfl⟩
      have hm2k : MchOk p m2 := by rw [hm2]; exact hm.top h0 ⟨hfr.fn, hfr.blk, by dsimp only; omega, hfr.keys, hfr.wf, hfr.dst⟩ rfl rfl
      have hlt : (frmN m.fs (m.fs.length - 1)).at_ < (nth (nth p.fFuncs.xs (frmN m.fs (m.fs.length - 1)).fn).fBlocks.xs (frmN m.fs (m.fs.length - 1)).block).fIns.xs.length := by omega
      refine so_sub (L' := [var 60 b (nth (nth p.fFuncs.xs (frmN m.fs (m.fs.length - 1)).fn).fBlocks.xs (frmN m.fs (m.fs.length - 1)).block), var 70 bm (⟨p, ⟨Af, cf, frsOf m2.fs mi⟩, ⟨m2.val, m2.trap, ⟨Al, cl, m2.leaks⟩, m2.steps, m2.deep, ⟨Am, cm, ss⟩⟩, m2.fin⟩ : SimMachine), own 90 Af (frsOf m2.fs mi).length cf (frsOf m2.fs mi), bagG EW 3 (UF p m2.fs) m2.fs.length mi (fun j => (frmN m2.fs j).vals), own 86 Al m2.leaks.length cl m2.leaks, own 45 Am ss.length cm ss, rws 2 ss]) (PSub.eq ?_) ?_
      · rw [← hbg, mv_fs (xs := frsOf m2.fs mi) (ys := frsOf m.fs mi) (by rw [hfs, List.length_set]), hfs, List.length_set, hm2]
        rfl
      refine s_call (L2 := [var 60 b (nth (nth p.fFuncs.xs (frmN m.fs (m.fs.length - 1)).fn).fBlocks.xs (frmN m.fs (m.fs.length - 1)).block)]) [1, 1, 1, 1, 1, 1] (doI_spec bm p hp hG m2 hm2k (by omega) (by rw [hm2]; exact hst) Af cf mi Al cl Am cm ss (by rw [hm2]; exact hss) (nth (nth (nth p.fFuncs.xs (frmN m.fs (m.fs.length - 1)).fn).fBlocks.xs (frmN m.fs (m.fs.length - 1)).block).fIns.xs (frmN m.fs (m.fs.length - 1)).at_) (hG.ins _ hfn _ hbk _ hlt) (fun hd => by rw [hj2]; exact dst_made hbk hlt hd) (((hp.k _ hfn).k _ hbk).ia _ hlt)) ?_ rfl (fun w1 f1 C => ⟨C.rd (by infer_instance), C.rd (by infer_instance)⟩) ?_
      · rw [hl2]
        show [_, _, Value.agg (Enc.enc (nth (nth (nth p.fFuncs.xs (frmN m.fs (m.fs.length - 1)).fn).fBlocks.xs (frmN m.fs (m.fs.length - 1)).block).fIns.xs ((nth _ _ : SimFrame).fAt - 1).toNat)).toArray] = [_, _, Value.agg (Enc.enc (nth (nth (nth p.fFuncs.xs (frmN m.fs (m.fs.length - 1)).fn).fBlocks.xs (frmN m.fs (m.fs.length - 1)).block).fIns.xs (frmN m.fs (m.fs.length - 1)).at_)).toArray]
        rw [hns2, show ((((frmN m.fs (m.fs.length - 1)).at_ + 1 : Nat) : Int) - 1).toNat = (frmN m.fs (m.fs.length - 1)).at_ by omega]
        rfl
      have hsm : stepM p m = doI p m2 (frmN m2.fs (m2.fs.length - 1)) (nth (nth (nth p.fFuncs.xs (frmN m.fs (m.fs.length - 1)).fn).fBlocks.xs (frmN m.fs (m.fs.length - 1)).block).fIns.xs (frmN m.fs (m.fs.length - 1)).at_) := by
        unfold stepM; rw [e0, hj2, hm2]; exact if_neg hne
      rintro v L' (⟨hd, rfl⟩ | ⟨m3, hd, rfl, Af3, cf3, mi3, Al3, cl3, ss3, hs3, rfl⟩)
      · (repeat' (first | refine s_assign ?_ | refine s_nil ?_ | (refine k_C ?_; refine s_ret ?_) | (refine k_E ?_; refine e_seq ?_)))
        exact e_done rfl rfl _ PSub.refl (.inl ⟨hsm.trans hd, rfl⟩)
      · (repeat' (first | refine s_assign ?_ | refine s_nil ?_ | (refine k_C ?_; refine s_ret ?_) | (refine k_E ?_; refine e_seq ?_)))
        exact e_done rfl rfl _ (PSub.take [0, 0, 0, 0, 0, 0] rfl) (.inr ⟨m3, hsm.trans hd, rfl, Af3, cf3, mi3, Al3, cl3, ss3, hs3, rfl⟩)
end Go.Proofs.Ytoknjpmlloikhaa
