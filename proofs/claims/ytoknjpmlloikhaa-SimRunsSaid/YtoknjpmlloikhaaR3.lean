/- Layer 8: a call is entered, walked. -/
import Derived.Test.YtoknjpmlloikhaaR2
namespace Go.Proofs.Ytoknjpmlloikhaa
set_option linter.unusedVariables false
set_option linter.unusedSimpArgs false
open Go Go.RowKit

def frm0 : Frm := ⟨0, 0, 0, fun _ => none, 0⟩
def frmN (fs : List Frm) (j : Nat) : Frm := fs.getD j frm0
def keysOf (p : SsaProg) (fn : Nat) : List Int := madeAll (nth p.fFuncs.xs fn).fBlocks.xs
def UF (p : SsaProg) (fs : List Frm) : Nat → Nat := fun j => (keysOf p (frmN fs j).fn).length
theorem frsOf_app {fs : List Frm} {mi : Nat → Nat} {f : Frm} {bv : Nat} : frsOf (fs ++ [f]) (updB mi fs.length bv) = frsOf fs mi ++ [⟨f.fn, f.block, f.at_, ⟨some bv⟩, f.dst⟩] := by
  unfold frsOf
  rw [List.mapIdx_append]
  congr 1
  · apply List.ext_getElem
    · simp
    · intro j h1 h2
      have hj : j < fs.length := by simpa using h1
      simp only [List.getElem_mapIdx]
      rw [updB_ne (by omega)]
  · simp [updB_same]
theorem frmN_app {fs : List Frm} {f : Frm} {j : Nat} (h : j < fs.length) : frmN (fs ++ [f]) j = frmN fs j := by
  unfold frmN
  simp [List.getElem?_append_left h]
theorem frmN_last {fs : List Frm} {f : Frm} : frmN (fs ++ [f]) fs.length = f := by
  unfold frmN; simp
theorem bagG_congr {e kt : TypeId} {α : Type} {E : EK Try.prog e α} {U U' : Nat → Nat} {k : Nat} {mi mi' : Nat → Nat} {F F' : Nat → Int → Option α} (h : ∀ j, j < k → U j = U' j ∧ mi j = mi' j ∧ F j = F' j) : bagG E kt U k mi F = bagG E kt U' k mi' F' := by
  unfold bagG
  congr 1
  refine List.map_congr_left fun j hj => ?_
  obtain ⟨h1, h2, h3⟩ := h j (List.mem_range.1 hj)
  rw [h1, h2, h3]
theorem putN_keys {ps as' : List Int} : ∀ {n : Nat}, n ≤ ps.length → ∀ u, putN ps as' (fun _ => none) n u ≠ none → u ∈ ps
  | 0, _, u, h => absurd rfl h
  | n + 1, hn, u, h => by
    have h : upd (putN ps as' (fun _ => none) n) (nth ps n) (some (nth as' n)) u ≠ none := h
    unfold upd at h
    split at h
    · rename_i e; rw [e]; exact nth_mem hn
    · exact putN_keys (Nat.le_of_succ_le hn) u h
set_option maxHeartbeats 4000000 in
theorem enter_spec (bm : Nat) (p : SsaProg) (hp : FewPr p) (hG : GoodP p) (Af : Option Addr) (cf : Nat) (fs : List Frm) (mi : Nat → Nat) (r : SimResult) (fin : Bool) (fn : Nat) (hfn : fn < p.fFuncs.xs.length) (as' : Sl Int) (has : (nth (nth p.fFuncs.xs fn).fBlocks.xs 0).fParams.xs.length ≤ as'.xs.length) (dst : Int) (hd : wfi dst) (hfl : fs.length ≤ 1000000) :
    Spec Try.prog 16 [.pointer (some ⟨bm, 0, none⟩), .int .i64 (fn : Nat), .slice as'.A as'.xs.length as'.c, .int .i64 dst] [var 70 bm (⟨p, ⟨Af, cf, frsOf fs mi⟩, r, fin⟩ : SimMachine), own 90 Af (frsOf fs mi).length cf (frsOf fs mi), bagG EW 3 (UF p fs) fs.length mi (fun j => (frmN fs j).vals)] (fun ok w => RdD ok w p ∧ RdD ok w as')
      fun v L' => (2000 ≤ fs.length ∧ v = .bool false ∧ L' = [var 70 bm (⟨p, ⟨Af, cf, frsOf fs mi⟩, r, fin⟩ : SimMachine), own 90 Af (frsOf fs mi).length cf (frsOf fs mi), bagG EW 3 (UF p fs) fs.length mi (fun j => (frmN fs j).vals)]) ∨
        (fs.length < 2000 ∧ v = .bool true ∧ ∃ A1 c1 bv, L' = [var 70 bm (⟨p, ⟨A1, c1, frsOf (fs ++ [(⟨fn, 0, 0, putAll (nth (nth p.fFuncs.xs fn).fBlocks.xs 0).fParams.xs as'.xs (fun _ => none), dst⟩ : Frm)]) (updB mi fs.length bv)⟩, (⟨r.fVal, r.fTrap, r.fLeaks, r.fSteps, max r.fDeep ((fs.length + 1 : Nat) : Int), r.fMem⟩ : SimResult), fin⟩ : SimMachine), own 90 A1 (frsOf (fs ++ [(⟨fn, 0, 0, putAll (nth (nth p.fFuncs.xs fn).fBlocks.xs 0).fParams.xs as'.xs (fun _ => none), dst⟩ : Frm)]) (updB mi fs.length bv)).length c1 (frsOf (fs ++ [(⟨fn, 0, 0, putAll (nth (nth p.fFuncs.xs fn).fBlocks.xs 0).fParams.xs as'.xs (fun _ => none), dst⟩ : Frm)]) (updB mi fs.length bv)), bagG EW 3 (UF p (fs ++ [(⟨fn, 0, 0, putAll (nth (nth p.fFuncs.xs fn).fBlocks.xs 0).fParams.xs as'.xs (fun _ => none), dst⟩ : Frm)])) (fs.length + 1) (updB mi fs.length bv) (fun j => (frmN (fs ++ [(⟨fn, 0, 0, putAll (nth (nth p.fFuncs.xs fn).fBlocks.xs 0).fParams.xs as'.xs (fun _ => none), dst⟩ : Frm)]) j).vals)]) := by
  refine spec_of Try.func16 rfl rfl fun w0 f0 hR => ?_
  obtain ⟨hRp, hRa⟩ := hR
  have hfrl : (frsOf fs mi).length = fs.length := by unfold frsOf; rw [List.length_mapIdx]
  have hfb := hG.n0 fn hfn
  have hpl : (nth (nth p.fFuncs.xs fn).fBlocks.xs 0).fParams.xs.length ≤ 20 := ((hp.k fn hfn).k 0 hfb).p
  (repeat' (first | refine s_move ?_ | refine s_assign ?_ | refine s_nil ?_ | (refine k_C ?_; first | refine s_seq ?_ | refine s_region ?_ | refine s_skip ?_ | refine s_ret ?_ | (refine s_ifd rfl ?_ ?_ <;> intro hc <;> try (exfalso; omega))) | (refine k_E ?_; first | refine e_seq ?_ | refine e_seq_ret ?_) | (refine k_load ?_; refine s_ldB rfl rfl ?_) | (refine k_bin ?_; refine s_geq rfl rfl ?_) | (refine k_fld ?_; refine s_fldB rfl ?_) | (refine k_call ?_; refine s_len rfl ?_) | refine s_nilck rfl ?_ | (refine s_mkmapI ?_; intro b)))
  · exact e_done rfl rfl _ PSub.refl (.inl ⟨by have hc2 : ((frsOf fs mi).length : Int) ≥ 2000 := hc; omega, rfl, rfl⟩)
  have hlt : fs.length < 2000 := by have hc2 : ¬ ((frsOf fs mi).length : Int) ≥ 2000 := hc; omega
  obtain ⟨bv, rfl⟩ : ∃ q, q = b := ⟨_, rfl⟩
  refine s_bld (⟨fn, 0, 0, ⟨some bv⟩, dst⟩ : SimFrame) (by kernel_rfl) ?_
  (repeat' (first | refine s_move ?_ | refine s_nil ?_ | (refine k_C ?_; first | refine s_seq ?_ | refine s_region ?_) | (refine k_E ?_; refine e_seq ?_) | (refine k_load ?_; first | refine s_ldB rfl rfl ?_ | refine s_ldSA rfl rfl om rfl ?_) | (refine k_fld ?_; refine s_fldB rfl ?_) | (refine k_idx ?_; refine s_idxS rfl rfl om ?_) | (refine k_store ?_; refine s_stW _ rfl rfl ?_) | (refine s_alloc ?_; intro b) | refine s_nilck rfl ?_))
  obtain ⟨b9, rfl⟩ : ∃ q, q = b := ⟨_, rfl⟩
  refine s_call0 (params_spec (nth p.fFuncs.xs fn)) rfl (fun w1 H => H.rdD (by infer_instance)) ?_
  rintro r2 L' ⟨rfl, rfl⟩
  (repeat' (first | refine s_move ?_ | refine s_nil ?_ | (refine k_C ?_; refine s_block ?_) | (refine k_E ?_; refine e_seq ?_) | (refine k_call ?_; refine s_len rfl ?_)))
  refine s_loop (σ := Nat) (fun k => [(0, .pointer (some ⟨bm, 0, none⟩)), (2, .slice as'.A as'.xs.length as'.c), (9, .pointer (some ⟨b9, 0, none⟩)), (30, .slice (nth (nth p.fFuncs.xs fn).fBlocks.xs 0).fParams.A (nth (nth p.fFuncs.xs fn).fBlocks.xs 0).fParams.xs.length (nth (nth p.fFuncs.xs fn).fBlocks.xs 0).fParams.c), (31, .int .i64 (nth (nth p.fFuncs.xs fn).fBlocks.xs 0).fParams.xs.length), (32, .int .i64 (k : Nat))])
    (fun k => [mp EW 3 bv k (putN (nth (nth p.fFuncs.xs fn).fBlocks.xs 0).fParams.xs as'.xs (fun _ => none) k), var 90 b9 (⟨fn, 0, 0, ⟨some bv⟩, dst⟩ : SimFrame), var 70 bm (⟨p, ⟨Af, cf, frsOf fs mi⟩, r, fin⟩ : SimMachine), own 90 Af (frsOf fs mi).length cf (frsOf fs mi), bagG EW 3 (UF p fs) fs.length mi (fun j => (frmN fs j).vals)])
    (fun k => k ≤ (nth (nth p.fFuncs.xs fn).fBlocks.xs 0).fParams.xs.length) (fun k => (nth (nth p.fFuncs.xs fn).fBlocks.xs 0).fParams.xs.length - k) 0 (by repeat (first | exact trivial | refine ⟨rfl, ?_⟩)) (Nat.zero_le _) (PSub.take [1, 0, 0, 0, 0] rfl) ?_
  rintro g k hk
  (repeat' (first | refine s_nil ?_ | (refine k_C ?_; first | refine s_seq ?_ | refine s_region ?_) | (refine k_E ?_; refine e_seq ?_) | (refine k_bin ?_; refine s_lss rfl rfl ?_)))
  (first | (refine k_C ?_; (refine s_ifd rfl ?_ ?_ <;> intro hc <;> try (exfalso; omega))))
  · have hkl : k < (nth (nth p.fFuncs.xs fn).fBlocks.xs 0).fParams.xs.length := by omega
    have hka : k < as'.xs.length := by omega
    have hpw : wfi (nth (nth (nth p.fFuncs.xs fn).fBlocks.xs 0).fParams.xs k) := RdD.int (ok := okOf w0 f0) (w := w0) (by infer_instance)
    have haw : wfi (nth as'.xs k) := RdD.int (ok := okOf w0 f0) (w := w0) (by infer_instance)
    (repeat' (first | refine s_move ?_ | refine s_assign ?_ | refine s_nil ?_ | (refine k_C ?_; first | refine s_seq ?_ | refine s_region ?_ | refine s_skip ?_ | refine s_block ?_) | (refine k_E ?_; refine e_seq ?_) | (refine k_load ?_; refine s_ldS rfl rfl om rfl ?_) | (refine k_idx ?_; refine s_idxS rfl rfl om ?_)))
    refine s_tail (F := ?F7) 7 [0, 1, 2, 3, 4, 5, 6] foI (by kernel_rfl) ?hr7 ?hn7
    case hr7 =>
      change sO _ _ _ _ _ _ (_ :: _ :: _ :: _ :: _ :: _ :: _ :: []) _ _ _
      (repeat' (first | refine s_move ?_ | refine s_nil ?_ | (refine k_load ?_; first | refine s_ldB rfl rfl ?_ | refine s_ldS rfl rfl om rfl ?_) | (refine k_fld ?_; refine s_fldB rfl ?_) | (refine k_idx ?_; refine s_idxS rfl rfl om ?_)))
      exact e_F
    case hn7 =>
      change sO _ _ _ _ _ _ (_ :: []) _ _ _
      refine s_put (yv := nth as'.xs k) rfl rfl rfl hpw (wfi_iff.1 haw) (by omega) ?_
      (repeat' (first | refine s_move ?_ | refine s_nil ?_ | (refine k_C ?_; refine s_region ?_) | (refine k_E ?_; first | refine e_seq ?_ | refine e_bk ?_) | (refine k_bin ?_; refine s_add1 rfl rfl om ?_)))
      exact e_lp (k + 1) (by repeat (first | exact trivial | refine ⟨rfl, ?_⟩)) (by show k + 1 ≤ _; omega) (by show _ - _ < _ - _; omega) PSub.refl
  have hkE : k = (nth (nth p.fFuncs.xs fn).fBlocks.xs 0).fParams.xs.length := by omega
  subst hkE
  (repeat' (first | (refine k_C ?_; first | refine s_seq ?_ | refine s_exit ?_) | (refine k_E ?_; first | refine e_seq ?_ | refine e_seq_exit ?_ | refine e_bk_exit ?_ | refine e_lp_exit ?_)))
  refine s_sub (L' := [own 90 Af (frsOf fs mi).length cf (frsOf fs mi), mp EW 3 bv (nth (nth p.fFuncs.xs fn).fBlocks.xs 0).fParams.xs.length (putAll (nth (nth p.fFuncs.xs fn).fBlocks.xs 0).fParams.xs as'.xs fun _ => none), var 90 b9 (⟨fn, 0, 0, ⟨some bv⟩, dst⟩ : SimFrame), var 70 bm (⟨p, ⟨Af, cf, frsOf fs mi⟩, r, fin⟩ : SimMachine), bagG EW 3 (UF p fs) fs.length mi (fun j => (frmN fs j).vals)]) (PSub.take [3, 0, 0, 0, 0] rfl) ?_
  refine s_mixApp (F := ?F9) (N := 8) (k1 := 6) (k2 := 7) (rs := [0, 1, 2, 3, 4, 5]) (⟨fn, 0, 0, ⟨some bv⟩, dst⟩ : SimFrame) rfl foI (by kernel_rfl) ?hread9 ?hx9 ?hu9 (by show ((frsOf fs mi).length + 1) * 40 ≤ 140737488355328; omega) ?hrest9
  case hread9 =>
    change sO _ _ _ _ _ _ (_ :: _ :: _ :: _ :: _ :: _ :: []) _ _ _
    (repeat' (first | refine s_move ?_ | refine s_nil ?_ | (refine k_load ?_; first | refine s_ldB rfl rfl ?_ | refine s_ldBW rfl rfl ?_) | (refine k_fld ?_; refine s_fldB rfl ?_) | refine s_nilck rfl ?_))
    exact e_F
  case hx9 => exact fun _ => rfl
  case hu9 => rfl
  intro vb A1 c1
  change sO _ _ _ _ _ _ (_ :: _ :: _ :: []) _ _ _
  (repeat' (first | (refine k_fld ?_; refine s_fldB rfl ?_) | refine s_nilck rfl ?_))
  refine s_stB (⟨p, ⟨A1, c1, frsOf fs mi ++ [(⟨fn, 0, 0, ⟨some bv⟩, dst⟩ : SimFrame)]⟩, r, fin⟩ : SimMachine) rfl rfl (by simp only [Enc.enc, List.length_append]; rfl) (by decide) ?_
  (repeat' (first | refine s_nil ?_ | (refine k_C ?_; refine s_seq ?_) | (refine k_E ?_; refine e_seq ?_)))
  refine s_tail (F := ?F10) 15 [0, 1, 2, 3, 4, 5, 6, 7, 8, 9, 10, 11, 12, 13, 14] foI (by kernel_rfl) ?hr10 ?hn10
  case hr10 =>
    change sO _ _ _ _ _ _ (_ :: _ :: _ :: _ :: _ :: _ :: _ :: _ :: _ :: _ :: _ :: _ :: _ :: _ :: _ :: []) _ _ _
    (repeat' (first | refine s_move ?_ | refine s_nil ?_ | (refine k_load ?_; refine s_ldB rfl rfl ?_) | (refine k_fld ?_; refine s_fldB rfl ?_) | (refine k_call ?_; first | refine s_len rfl ?_ | refine s_max rfl rfl ?_) | refine s_nilck rfl ?_))
    exact e_F
  case hn10 =>
    change sO _ _ _ _ _ _ (_ :: []) _ _ _
    refine s_stB (⟨p, ⟨A1, c1, frsOf fs mi ++ [(⟨fn, 0, 0, ⟨some bv⟩, dst⟩ : SimFrame)]⟩, ⟨r.fVal, r.fTrap, r.fLeaks, r.fSteps, max r.fDeep (((frsOf fs mi ++ [(⟨fn, 0, 0, ⟨some bv⟩, dst⟩ : SimFrame)]).length : Nat) : Int), r.fMem⟩, fin⟩ : SimMachine) rfl rfl (by rfl) (by decide) ?_
    (repeat' (first | refine s_assign ?_ | refine s_nil ?_ | (refine k_C ?_; first | refine s_seq ?_ | refine s_region ?_ | refine s_ret ?_) | (refine k_E ?_; refine e_seq ?_)))
    have hfr : frsOf (fs ++ [(⟨fn, 0, 0, putAll (nth (nth p.fFuncs.xs fn).fBlocks.xs 0).fParams.xs as'.xs (fun _ => none), dst⟩ : Frm)]) (updB mi fs.length bv) = frsOf fs mi ++ [(⟨fn, 0, 0, ⟨some bv⟩, dst⟩ : SimFrame)] := frsOf_app
    have hle : (frsOf fs mi ++ [(⟨fn, 0, 0, ⟨some bv⟩, dst⟩ : SimFrame)]).length = fs.length + 1 := by rw [List.length_append, hfrl]; rfl
    refine e_done rfl rfl [var 70 bm (⟨p, ⟨A1, c1, frsOf (fs ++ [(⟨fn, 0, 0, putAll (nth (nth p.fFuncs.xs fn).fBlocks.xs 0).fParams.xs as'.xs (fun _ => none), dst⟩ : Frm)]) (updB mi fs.length bv)⟩, (⟨r.fVal, r.fTrap, r.fLeaks, r.fSteps, max r.fDeep ((fs.length + 1 : Nat) : Int), r.fMem⟩ : SimResult), fin⟩ : SimMachine), own 90 A1 (frsOf (fs ++ [(⟨fn, 0, 0, putAll (nth (nth p.fFuncs.xs fn).fBlocks.xs 0).fParams.xs as'.xs (fun _ => none), dst⟩ : Frm)]) (updB mi fs.length bv)).length c1 (frsOf (fs ++ [(⟨fn, 0, 0, putAll (nth (nth p.fFuncs.xs fn).fBlocks.xs 0).fParams.xs as'.xs (fun _ => none), dst⟩ : Frm)]) (updB mi fs.length bv)), bagG EW 3 (UF p (fs ++ [(⟨fn, 0, 0, putAll (nth (nth p.fFuncs.xs fn).fBlocks.xs 0).fParams.xs as'.xs (fun _ => none), dst⟩ : Frm)])) (fs.length + 1) (updB mi fs.length bv) (fun j => (frmN (fs ++ [(⟨fn, 0, 0, putAll (nth (nth p.fFuncs.xs fn).fBlocks.xs 0).fParams.xs as'.xs (fun _ => none), dst⟩ : Frm)]) j).vals)] ?_ (.inr ⟨hlt, rfl, A1, c1, bv, rfl⟩)
    rw [hfr]
    rw [hle, hfrl]
    refine (PSub.take [1, 2, 0, 1] rfl).trans ((PSub.mpCut (keysOf p fn) U_3 fun u hu => par_made hfb u (putN_keys (Nat.le_refl _) u hu)).trans ((PSub.take [0, 2, 0, 0] rfl).trans ((PSub.eq (L2 := [mp EW 3 bv (UF p (fs ++ [(⟨fn, 0, 0, putAll (nth (nth p.fFuncs.xs fn).fBlocks.xs 0).fParams.xs as'.xs (fun _ => none), dst⟩ : Frm)]) fs.length) (putAll (nth (nth p.fFuncs.xs fn).fBlocks.xs 0).fParams.xs as'.xs fun _ => none), bagG EW 3 (UF p (fs ++ [(⟨fn, 0, 0, putAll (nth (nth p.fFuncs.xs fn).fBlocks.xs 0).fParams.xs as'.xs (fun _ => none), dst⟩ : Frm)])) fs.length mi (fun j => (frmN fs j).vals), var 70 bm (⟨p, ⟨A1, c1, frsOf fs mi ++ [(⟨fn, 0, 0, ⟨some bv⟩, dst⟩ : SimFrame)]⟩, (⟨r.fVal, r.fTrap, r.fLeaks, r.fSteps, max r.fDeep ((fs.length + 1 : Nat) : Int), r.fMem⟩ : SimResult), fin⟩ : SimMachine), own 90 A1 (fs.length + 1) c1 (frsOf fs mi ++ [(⟨fn, 0, 0, ⟨some bv⟩, dst⟩ : SimFrame)])]) ?_).trans ((PSub.bagGnew (E := EW) (kt := 3) (U := UF p (fs ++ [(⟨fn, 0, 0, putAll (nth (nth p.fFuncs.xs fn).fBlocks.xs 0).fParams.xs as'.xs (fun _ => none), dst⟩ : Frm)])) (k := fs.length) (mi := mi) (F := fun j => (frmN fs j).vals)).trans ((PSub.take [1, 1, 0] rfl).trans (PSub.eq ?_))))))
    · have h1 : bagG EW 3 (UF p fs) fs.length mi (fun j => (frmN fs j).vals) = bagG EW 3 (UF p (fs ++ [(⟨fn, 0, 0, putAll (nth (nth p.fFuncs.xs fn).fBlocks.xs 0).fParams.xs as'.xs (fun _ => none), dst⟩ : Frm)])) fs.length mi (fun j => (frmN fs j).vals) := bagG_congr fun j hj => ⟨by unfold UF; rw [frmN_app hj], rfl, rfl⟩
      have h2 : UF p (fs ++ [(⟨fn, 0, 0, putAll (nth (nth p.fFuncs.xs fn).fBlocks.xs 0).fParams.xs as'.xs (fun _ => none), dst⟩ : Frm)]) fs.length = (keysOf p fn).length := by unfold UF; rw [frmN_last]
      rw [h2, ← h1]
      rfl
    · have h1 : bagG EW 3 (UF p (fs ++ [(⟨fn, 0, 0, putAll (nth (nth p.fFuncs.xs fn).fBlocks.xs 0).fParams.xs as'.xs (fun _ => none), dst⟩ : Frm)])) (fs.length + 1) (updB mi fs.length bv) (updB (fun j => (frmN fs j).vals) fs.length (putAll (nth (nth p.fFuncs.xs fn).fBlocks.xs 0).fParams.xs as'.xs fun _ => none)) = bagG EW 3 (UF p (fs ++ [(⟨fn, 0, 0, putAll (nth (nth p.fFuncs.xs fn).fBlocks.xs 0).fParams.xs as'.xs (fun _ => none), dst⟩ : Frm)])) (fs.length + 1) (updB mi fs.length bv) (fun j => (frmN (fs ++ [(⟨fn, 0, 0, putAll (nth (nth p.fFuncs.xs fn).fBlocks.xs 0).fParams.xs as'.xs (fun _ => none), dst⟩ : Frm)]) j).vals) := bagG_congr fun j hj => ⟨rfl, rfl, by
        by_cases e : j = fs.length
        · subst e; rw [updB_same, frmN_last]
        · rw [updB_ne e, frmN_app (by omega)]⟩
      rw [← h1]
      rfl
end Go.Proofs.Ytoknjpmlloikhaa
