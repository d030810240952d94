/- Layer 8: a block's end, walked. -/
import Derived.Test.YtoknjpmlloikhaaR4
namespace Go.Proofs.Ytoknjpmlloikhaa
set_option linter.unusedVariables false
set_option linter.unusedSimpArgs false
open Go Go.RowKit

/-- A call under way is right. -/
structure FrmOk (p : SsaProg) (f : Frm) : Prop where
  fn : f.fn < p.fFuncs.xs.length
  blk : f.block < (nth p.fFuncs.xs f.fn).fBlocks.xs.length
  at_ : f.at_ ≤ (nth (nth p.fFuncs.xs f.fn).fBlocks.xs f.block).fIns.xs.length
  keys : ∀ u, f.vals u ≠ none → u ∈ keysOf p f.fn
  wf : ∀ u, wfi (getV f.vals u)
  dst : wfi f.dst
def LkW (l : ApiLeak) : Prop := wfi l.fKind ∧ wfi l.fA ∧ wfi l.fB
/-- A run under way is right. -/
structure MchOk (p : SsaProg) (m : Mch) : Prop where
  fr : ∀ j, j < m.fs.length → FrmOk p (frmN m.fs j)
  calls : ∀ j, j + 1 < m.fs.length → (frmN m.fs (j + 1)).dst ∈ keysOf p (frmN m.fs j).fn
  few : m.fs.length ≤ 2000
  mem : ∀ j, j < m.mem.length → 0 < (m.row j).length ∧ (m.row j).length ≤ 4096 ∧ ∀ x ∈ m.row j, wfi x
  memN : m.mem.length = p.fArrays.xs.length
  leaks : m.leaks.length ≤ m.steps
  lw : ∀ l ∈ m.leaks, LkW l
theorem keys_le {p : SsaProg} (hp : FewPr p) (fn : Nat) : (keysOf p fn).length ≤ 1800 := by
  have h1 : ∀ bs : List SsaBlock, (∀ b ∈ bs, (madeB b).length ≤ 60) → (madeAll bs).length ≤ bs.length * 60 := by
    intro bs
    induction bs with
    | nil => intro _; exact Nat.le_refl _
    | cons b bs ih =>
      intro h
      have e : madeAll (b :: bs) = madeB b ++ madeAll bs := rfl
      rw [e, List.length_append, List.length_cons]
      have h2 := h b (List.mem_cons_self)
      have h3 := ih fun c hc => h c (List.mem_cons_of_mem _ hc)
      omega
  by_cases hf : fn < p.fFuncs.xs.length
  · have hk := hp.k fn hf
    have h2 := h1 (nth p.fFuncs.xs fn).fBlocks.xs fun b hb => by
      obtain ⟨j, hj, rfl⟩ := List.mem_iff_getElem.1 hb
      have q := hk.k j hj
      rw [nth_get hj] at q
      have q1 := q.p
      have q2 := q.i
      have q3 := dstsB7_len (nth p.fFuncs.xs fn).fBlocks.xs[j].fIns.xs
      unfold madeB
      rw [List.length_append]
      omega
    have := hk.b
    unfold keysOf
    omega
  · unfold keysOf
    rw [nth_out (by omega)]
    exact Nat.zero_le _
theorem leaveM_one {m : Mch} {f : Frm} {v : Int} (h : m.fs.length = 1) : leaveM m f v = { m with fs := [], val := v, fin := true } := by
  unfold leaveM; rw [if_pos (by omega)]
theorem leaveM_many {m : Mch} {f : Frm} {v : Int} (h : 1 < m.fs.length) : leaveM m f v = { m with fs := (m.fs.take (m.fs.length - 1)).set (m.fs.length - 2) { frmN m.fs (m.fs.length - 2) with vals := putF (frmN m.fs (m.fs.length - 2)).vals f.dst v } } := by
  unfold leaveM
  rw [if_neg (by omega)]
  have hl : (m.fs.take (m.fs.length - 1)).length = m.fs.length - 1 := by rw [List.length_take]; omega
  have e : (m.fs.take (m.fs.length - 1))[(m.fs.take (m.fs.length - 1)).length - 1]? = some (frmN m.fs (m.fs.length - 2)) := by
    rw [hl, show m.fs.length - 1 - 1 = m.fs.length - 2 by omega, List.getElem?_take, if_pos (by omega)]
    unfold frmN
    rw [List.getElem?_eq_getElem (by omega)]
    simp [List.getElem?_eq_getElem (show m.fs.length - 2 < m.fs.length by omega)]
  simp only [e]
  rw [hl, show m.fs.length - 1 - 1 = m.fs.length - 2 by omega]
theorem frsOf_set {fs : List Frm} {mi : Nat → Nat} {k : Nat} {f : Frm} : frsOf (fs.set k f) mi = (frsOf fs mi).set k ⟨f.fn, f.block, f.at_, ⟨some (mi k)⟩, f.dst⟩ := by
  unfold frsOf
  apply List.ext_getElem?
  intro j
  rw [List.getElem?_mapIdx]
  by_cases e : k = j
  · subst e
    by_cases h : k < fs.length
    · rw [List.getElem?_set_self h, List.getElem?_set_self (by simpa using h)]; rfl
    · rw [List.getElem?_eq_none (by simpa using h), List.getElem?_eq_none (by simpa using h)]; rfl
  · rw [List.getElem?_set_ne e, List.getElem?_set_ne e, List.getElem?_mapIdx]
theorem putN_sub {ps as' : List Int} {v : Int → Option Int} : ∀ {n : Nat}, n ≤ ps.length → ∀ u, putN ps as' v n u ≠ none → u ∈ ps ∨ v u ≠ none
  | 0, _, u, h => .inr h
  | n + 1, hn, u, h => by
    have h : upd (putN ps as' v n) (nth ps n) (some (nth as' n)) u ≠ none := h
    unfold upd at h
    split at h
    · rename_i e; rw [e]; exact .inl (nth_mem hn)
    · exact putN_sub (Nat.le_of_succ_le hn) u h
theorem mv_fs {b : Nat} {p : SsaProg} {A : Option Addr} {c : Nat} {xs ys : List SimFrame} {r : SimResult} {fin : Bool} (h : xs.length = ys.length) : var 70 b (⟨p, ⟨A, c, xs⟩, r, fin⟩ : SimMachine) = var 70 b (⟨p, ⟨A, c, ys⟩, r, fin⟩ : SimMachine) := var_congr (by
  show [_, _, _, Value.slice A xs.length c, _, _, _, _, _, _, _] = [_, _, _, Value.slice A ys.length c, _, _, _, _, _, _, _]
  rw [h])
/-- The innermost call's map is put back. -/
theorem PSub.topBag {w0 : World} {f0 : FP} {L : List HP} {p : SsaProg} {fs : List Frm} {mi : Nat → Nat} {N : Nat} {V : Int → Option Int} {f : Frm} (h0 : 0 < fs.length) (hf : f.fn = (frmN fs (fs.length - 1)).fn) (hv : f.vals = V) (hk : ∀ u, V u ≠ none → u ∈ keysOf p f.fn) :
    PSub w0 f0 (mp EW 3 (mi (fs.length - 1)) N V :: bagGX EW 3 (UF p fs) fs.length mi (fun j => (frmN fs j).vals) (fs.length - 1) :: L) (bagG EW 3 (UF p (fs.set (fs.length - 1) f)) (fs.set (fs.length - 1) f).length mi (fun j => (frmN (fs.set (fs.length - 1) f) j).vals) :: L) := by
  refine (PSub.mpCut (keysOf p f.fn) U_3 hk).trans ?_
  have e : (keysOf p f.fn).length = UF p fs (fs.length - 1) := by unfold UF; rw [hf]
  rw [e]
  refine (PSub.bagGin (E := EW) (kt := 3) (U := UF p fs) (mi := mi) (F := fun j => (frmN fs j).vals) (b := fs.length - 1) (by omega)).trans (PSub.eq ?_)
  have h1 : bagG EW 3 (UF p fs) fs.length mi (updB (fun j => (frmN fs j).vals) (fs.length - 1) V) = bagG EW 3 (UF p (fs.set (fs.length - 1) f)) fs.length mi (fun j => (frmN (fs.set (fs.length - 1) f) j).vals) := bagG_congr fun j hj => by
    unfold UF
    rw [frmN_set (by omega)]
    by_cases e : j = fs.length - 1
    · subst e; rw [if_pos rfl, updB_same, hf, hv]; exact ⟨rfl, rfl, rfl⟩
    · rw [if_neg e, updB_ne e]; exact ⟨rfl, rfl, rfl⟩
  rw [h1, List.length_set]
set_option maxHeartbeats 4000000 in
theorem finish_spec (bm : Nat) (p : SsaProg) (hp : FewPr p) (hG : GoodP p) (m : Mch) (hm : MchOk p m) (h0 : 0 < m.fs.length) (hst : m.steps ≤ 10000000) (Af : Option Addr) (cf : Nat) (mi : Nat → Nat) (Al : Option Addr) (cl : Nat) (M0 : Sl (Sl Int)) (e : SsaEnd) (he : endsB (nth p.fFuncs.xs (frmN m.fs (m.fs.length - 1)).fn) e = true) :
    Spec Try.prog 28 [.pointer (some ⟨bm, 0, none⟩), pt Af ((m.fs.length - 1) * 5), .agg (Enc.enc e).toArray] [var 70 bm (⟨p, ⟨Af, cf, frsOf m.fs mi⟩, ⟨m.val, m.trap, ⟨Al, cl, m.leaks⟩, m.steps, m.deep, M0⟩, m.fin⟩ : SimMachine), own 90 Af (frsOf m.fs mi).length cf (frsOf m.fs mi), bagG EW 3 (UF p m.fs) m.fs.length mi (fun j => (frmN m.fs j).vals), own 86 Al m.leaks.length cl m.leaks] (fun ok w => RdD ok w p ∧ RdD ok w e)
      fun _ L' => ∃ Al1 cl1, L' = [var 70 bm (⟨p, ⟨Af, cf, frsOf (finishM p m (frmN m.fs (m.fs.length - 1)) e).fs mi⟩, ⟨(finishM p m (frmN m.fs (m.fs.length - 1)) e).val, (finishM p m (frmN m.fs (m.fs.length - 1)) e).trap, ⟨Al1, cl1, (finishM p m (frmN m.fs (m.fs.length - 1)) e).leaks⟩, (finishM p m (frmN m.fs (m.fs.length - 1)) e).steps, (finishM p m (frmN m.fs (m.fs.length - 1)) e).deep, M0⟩, (finishM p m (frmN m.fs (m.fs.length - 1)) e).fin⟩ : SimMachine), own 90 Af (frsOf (finishM p m (frmN m.fs (m.fs.length - 1)) e).fs mi).length cf (frsOf (finishM p m (frmN m.fs (m.fs.length - 1)) e).fs mi), bagG EW 3 (UF p (finishM p m (frmN m.fs (m.fs.length - 1)) e).fs) (finishM p m (frmN m.fs (m.fs.length - 1)) e).fs.length mi (fun j => (frmN (finishM p m (frmN m.fs (m.fs.length - 1)) e).fs j).vals), own 86 Al1 (finishM p m (frmN m.fs (m.fs.length - 1)) e).leaks.length cl1 (finishM p m (frmN m.fs (m.fs.length - 1)) e).leaks] := by
  refine spec_of Try.func28 rfl rfl fun w0 f0 hR => ?_
  obtain ⟨hRp, hRe⟩ := hR
  have hfrl : (frsOf m.fs mi).length = m.fs.length := by unfold frsOf; rw [List.length_mapIdx]
  have hfr := hm.fr (m.fs.length - 1) (by omega)
  have hke := hfr.keys
  obtain ⟨⟨⟨hk1, hk4⟩, hwl, htr, hvl, hv0⟩, hws⟩ : endP e ∧ ∀ w ∈ e.fWays.xs, wayB (nth p.fFuncs.xs (frmN m.fs (m.fs.length - 1)).fn) w = true := by
    unfold endsB endB at he
    rw [Bool.and_eq_true, List.all_eq_true, decide_eq_true_eq] at he
    exact he
  have hb : (nth (frsOf m.fs mi) (m.fs.length - 1)).fVals.b = some (mi (m.fs.length - 1)) := by rw [frsOf_nth (by omega)]
  (repeat' (first | refine s_assign ?_ | refine s_nil ?_ | (refine k_C ?_; first | refine s_seq ?_ | refine s_region ?_ | refine s_block ?_) | (refine k_E ?_; refine e_seq ?_) | (refine k_load ?_; refine s_ldB rfl rfl ?_) | (refine k_bin ?_; refine s_eql rfl rfl ?_) | (refine k_fld ?_; refine s_fldB rfl ?_) | (refine s_box _ rfl ?_; intro b)))
  refine s_cutE (σ := Nat × Mch × Option Addr × Nat) (fun q => [(0, .pointer (some ⟨bm, 0, none⟩)), (1, pt Af ((m.fs.length - 1) * 5)), (5, .pointer (some ⟨b, 0, none⟩)), (6, .int .i64 (q.1 : Nat))]) (fun q => [var 58 b e, var 70 bm (⟨p, ⟨Af, cf, frsOf q.2.1.fs mi⟩, ⟨q.2.1.val, q.2.1.trap, ⟨q.2.2.1, q.2.2.2, q.2.1.leaks⟩, q.2.1.steps, q.2.1.deep, M0⟩, q.2.1.fin⟩ : SimMachine), own 90 Af (frsOf m.fs mi).length cf (frsOf m.fs mi), bagG EW 3 (UF p m.fs) m.fs.length mi (fun j => (frmN m.fs j).vals), own 86 q.2.2.1 q.2.1.leaks.length q.2.2.2 q.2.1.leaks])
    (fun q => q.1 < e.fWays.xs.length ∧ (q.2.1 = m ∨ ∃ l, q.2.1 = m.leak l) ∧ (finishM p m (frmN m.fs (m.fs.length - 1)) e) = wayM p q.2.1 (frmN m.fs (m.fs.length - 1)) e q.1) ?_ ?_
  · (repeat' (first | refine s_move ?_ | refine s_assign ?_ | refine s_nil ?_ | (refine k_C ?_; first | refine s_seq ?_ | refine s_region ?_ | refine s_skip ?_ | (refine s_ifd rfl ?_ ?_ <;> intro hc <;> try (exfalso; omega))) | (refine k_E ?_; refine e_seq ?_) | (refine k_load ?_; refine s_ldB rfl rfl ?_) | (refine k_bin ?_; refine s_eql rfl rfl ?_) | (refine k_fld ?_; refine s_fldB rfl ?_)))
    · refine s_tail (F := ?F1) 8 [0, 1, 2, 3, 4, 5, 6, 7] foI (by kernel_rfl) ?hr1 ?hn1
      case hr1 =>
        change sO _ _ _ _ _ _ (_ :: _ :: _ :: _ :: _ :: _ :: _ :: _ :: []) _ _ _
        (repeat' (first | refine s_move ?_ | (refine k_load ?_; first | refine s_ldB rfl rfl ?_ | refine s_ldF rfl om rfl ?_) | (refine k_fld ?_; first | refine s_fld rfl ?_ | refine s_fldB rfl ?_) | refine s_nilck rfl ?_))
        refine s_lookG (k := m.fs.length) (b := m.fs.length - 1) 3 rfl (by omega) hb rfl rfl ?_
        (repeat' (first | refine s_nil ?_))
        exact e_F
      case hn1 =>
        change sO _ _ _ _ _ _ (_ :: []) _ _ _
        refine s_call (L2 := [var 58 b e, own 86 Al m.leaks.length cl m.leaks]) [1, 1, 1] (leave_spec bm p Af cf m.fs mi ⟨m.val, m.trap, ⟨Al, cl, m.leaks⟩, m.steps, m.deep, M0⟩ m.fin h0 hfr.dst ?_ ?_ ?_ ?_ (getV (frmN m.fs (m.fs.length - 1)).vals e.fVal) (hfr.wf _)) rfl rfl (fun _ _ _ => trivial) ?_
        · intro h2
          have := hm.calls (m.fs.length - 2) (by omega)
          rwa [show m.fs.length - 2 + 1 = m.fs.length - 1 by omega] at this
        · intro u hu
          rcases Nat.lt_or_ge (m.fs.length - 2) m.fs.length with h | h
          · exact (hm.fr _ h).keys u hu
          · omega
        · intro j; exact Nat.le_trans (keys_le hp _) (by omega)
        · exact Nat.le_trans hm.few (by omega)
        have hF : (finishM p m (frmN m.fs (m.fs.length - 1)) e) = leaveM m (frmN m.fs (m.fs.length - 1)) (getV (frmN m.fs (m.fs.length - 1)).vals e.fVal) := by unfold finishM; rw [if_pos hc]
        rintro v L' (⟨h1, rfl⟩ | ⟨h1, rfl⟩)
        · rw [leaveM_one h1] at hF
          (repeat' (first | refine s_nil ?_ | (refine k_C ?_; refine s_ret ?_) | (refine k_E ?_; first | refine e_seq ?_ | refine e_seq_ret ?_ | refine e_bk_ret ?_ | refine e_ct_ret ?_)))
          rw [hF]
          exact e_done0 rfl _ (PSub.take [0, 0, 0, 1] rfl) ⟨Al, cl, rfl⟩
        · rw [leaveM_many h1] at hF
          (repeat' (first | refine s_nil ?_ | (refine k_C ?_; refine s_ret ?_) | (refine k_E ?_; first | refine e_seq ?_ | refine e_seq_ret ?_ | refine e_bk_ret ?_ | refine e_ct_ret ?_)))
          rw [hF]
          obtain ⟨fs2, hfs2⟩ : ∃ x, x = (m.fs.take (m.fs.length - 1)).set (m.fs.length - 2) { frmN m.fs (m.fs.length - 2) with vals := putF (frmN m.fs (m.fs.length - 2)).vals (frmN m.fs (m.fs.length - 1)).dst (getV (frmN m.fs (m.fs.length - 1)).vals e.fVal) } := ⟨_, rfl⟩
          have hlen : fs2.length = m.fs.length - 1 := by rw [hfs2, List.length_set, List.length_take]; omega
          rw [← hfs2]
          exact e_done0 rfl _ ((PSub.take [0, 0, 0, 1] rfl).trans (PSub.eq (by show [_, _, _, _] = [_, _, bagG _ _ _ fs2.length _ _, _]; rw [hlen]))) ⟨Al, cl, rfl⟩
    · have hF : (finishM p m (frmN m.fs (m.fs.length - 1)) e) = m.stop e.fTrap := by unfold finishM; rw [if_neg (by omega), if_pos hc]
      refine s_call (L2 := [var 58 b e, own 90 Af (frsOf m.fs mi).length cf (frsOf m.fs mi), bagG EW 3 (UF p m.fs) m.fs.length mi (fun j => (frmN m.fs j).vals), own 86 Al m.leaks.length cl m.leaks]) [1] (trap_spec bm p ⟨Af, cf, frsOf m.fs mi⟩ ⟨m.val, m.trap, ⟨Al, cl, m.leaks⟩, m.steps, m.deep, M0⟩ m.fin e.fTrap) rfl rfl (fun _ _ _ => trivial) ?_
      rintro v L' rfl
      (repeat' (first | refine s_nil ?_ | (refine k_C ?_; refine s_ret ?_) | (refine k_E ?_; first | refine e_seq ?_ | refine e_seq_ret ?_ | refine e_bk_ret ?_ | refine e_ct_ret ?_)))
      rw [hF]
      exact e_done0 rfl _ (PSub.take [0, 1, 1, 1] rfl) ⟨Al, cl, rfl⟩
    · refine s_tail (F := ?F2) 8 [0, 1, 2, 3, 4, 5, 6, 7] foI (by kernel_rfl) ?hr2 ?hn2
      case hr2 =>
        change sO _ _ _ _ _ _ (_ :: _ :: _ :: _ :: _ :: _ :: _ :: _ :: []) _ _ _
        (repeat' (first | refine s_move ?_ | (refine k_load ?_; first | refine s_ldB rfl rfl ?_ | refine s_ldF rfl om rfl ?_) | (refine k_fld ?_; first | refine s_fld rfl ?_ | refine s_fldB rfl ?_) | refine s_nilck rfl ?_))
        refine s_lookG (k := m.fs.length) (b := m.fs.length - 1) 3 rfl (by omega) hb rfl rfl ?_
        (repeat' (first | refine s_nil ?_ | (refine k_bin ?_; refine s_neq rfl rfl ?_)))
        exact e_F
      case hn2 =>
        change sO _ _ _ _ _ _ (_ :: _ :: []) _ _ _
        refine s_call0 (bool_spec _) rfl (fun _ _ => trivial) ?_
        rintro v L' ⟨rfl, rfl⟩
        obtain ⟨y, hy1, hy2, hy3⟩ : ∃ y : Nat, y ≤ 1 ∧ boolW (!decide (getV (frmN m.fs (m.fs.length - 1)).vals e.fVal = 0)) = (y : Int) ∧ (if getV (frmN m.fs (m.fs.length - 1)).vals e.fVal ≠ 0 then (1 : Int) else 0) = (y : Int) := by
          by_cases h : getV (frmN m.fs (m.fs.length - 1)).vals e.fVal = 0
          · exact ⟨0, by omega, by rw [decide_eq_true h]; rfl, by rw [if_neg (by simpa using h)]; rfl⟩
          · exact ⟨1, by omega, by rw [decide_eq_false h]; rfl, by rw [if_pos h]; rfl⟩
        change sO _ _ _ _ _ _ _ _ (up _ _ (.int .i64 (boolW (!decide (getV (frmN m.fs (m.fs.length - 1)).vals e.fVal = 0))))) _
        rw [hy2]
        (repeat' (first | refine s_move ?_ | refine s_assign ?_ | refine s_nil ?_ | (refine k_C ?_; first | refine s_seq ?_ | refine s_region ?_) | (refine k_E ?_; refine e_seq ?_)))
        refine s_call (L2 := [var 58 b e, own 90 Af (frsOf m.fs mi).length cf (frsOf m.fs mi), bagG EW 3 (UF p m.fs) m.fs.length mi (fun j => (frmN m.fs j).vals)]) [1, 3] (leak_spec bm p ⟨Af, cf, frsOf m.fs mi⟩ ⟨m.val, m.trap, ⟨Al, cl, m.leaks⟩, m.steps, m.deep, M0⟩ m.fin 1 y 0 (by have := hm.leaks; show m.leaks.length ≤ _; omega)) rfl rfl (fun _ _ _ => trivial) ?_
        rintro v L' ⟨A1, c1, rfl⟩
        (repeat' (first | refine s_move ?_ | refine s_assign ?_ | refine s_nil ?_ | (refine k_C ?_; refine s_region ?_) | (refine k_E ?_; refine e_seq ?_) | (refine k_bin ?_; refine s_sub64 rfl rfl om ?_)))
        have hw2 : (e.fWays.xs.length : Int) = 2 := by rw [hwl]; have : endN e.fKind = 2 := by rw [hc]; rfl
                                                       rw [this]
        have hy4 : (1 : Int) - (y : Int) = ((1 - y : Nat) : Int) := by omega
        rw [hy4]
        refine e_ct (1 - y, m.leak ⟨1, y, 0⟩, A1, c1) (by repeat (first | exact trivial | refine ⟨rfl, ?_⟩)) ⟨by show 1 - y < _; omega, .inr ⟨_, rfl⟩, ?_⟩ (PSub.take [2, 0, 1, 1, 0] rfl)
        unfold finishM
        rw [if_neg (by omega), if_neg (by omega), if_pos hc, hy3]
        show wayM p _ _ e ((1 : Int) - y).toNat = _
        rw [hy4]
        rfl
    · refine e_ct (0, m, Al, cl) (by repeat (first | exact trivial | refine ⟨rfl, ?_⟩)) ⟨?_, .inl rfl, ?_⟩ PSub.refl
      · have : endN e.fKind = 1 := by rw [show e.fKind = 1 by omega]; rfl
        show 0 < _
        omega
      · unfold finishM; rw [if_neg (by omega), if_neg (by omega), if_neg (by omega)]
  · rintro g ⟨w, m1, Al1, cl1⟩ ⟨hw, hm1, hfin⟩
    dsimp only at hw hm1 hfin ⊢
    (repeat' (first | refine s_move ?_ | refine s_nil ?_ | (refine k_C ?_; first | refine s_seq ?_ | refine s_region ?_) | (refine k_E ?_; first | refine e_seq ?_ | refine e_bk ?_) | (refine k_load ?_; first | refine s_ldB rfl rfl ?_ | refine s_ldSA rfl rfl om rfl ?_) | (refine k_fld ?_; refine s_fldB rfl ?_) | (refine k_idx ?_; refine s_idxS rfl rfl om ?_) | (refine k_store ?_; refine s_stW _ rfl rfl ?_) | (refine s_alloc ?_; intro b)))
    have hway := hws _ (nth_mem hw)
    unfold wayB at hway
    simp only [Bool.and_eq_true, decide_eq_true_eq] at hway
    obtain ⟨⟨hto1, hto2⟩, hargs⟩ := hway
    have hfn := hfr.fn
    have hto3 : (nth e.fWays.xs w).fTo.toNat < (nth p.fFuncs.xs (frmN m.fs (m.fs.length - 1)).fn).fBlocks.xs.length := by omega
    have hpar := ((hp.k _ hfn).k _ hto3).p
    have hwl2 : (nth e.fWays.xs w).fArgs.xs.length ≤ 1000 := by omega
    have hnf : nth (frsOf m.fs mi) (m.fs.length - 1) = ⟨(frmN m.fs (m.fs.length - 1)).fn, (frmN m.fs (m.fs.length - 1)).block, (frmN m.fs (m.fs.length - 1)).at_, ⟨some (mi (m.fs.length - 1))⟩, (frmN m.fs (m.fs.length - 1)).dst⟩ := frsOf_nth (by omega)
    refine s_call (L2 := [var 55 b (nth e.fWays.xs w), var 58 _ e, var 70 bm (⟨p, ⟨Af, cf, frsOf m1.fs mi⟩, ⟨m1.val, m1.trap, ⟨Al1, cl1, m1.leaks⟩, m1.steps, m1.deep, M0⟩, m1.fin⟩ : SimMachine), own 86 Al1 m1.leaks.length cl1 m1.leaks]) [3, 3] (values_spec Af cf (frsOf m.fs mi) (m.fs.length - 1) (by omega) (UF p m.fs) mi m.fs.length (fun j => (frmN m.fs j).vals) (by omega) hb (nth e.fWays.xs w).fArgs hwl2) rfl rfl (fun w1 f1 C => C.rd (by infer_instance)) ?_
    rintro v L' ⟨A2, c2, rfl, rfl⟩
    have hwm : ∀ k, k < ((nth e.fWays.xs w).fArgs.xs.map (getV (frmN m.fs (m.fs.length - 1)).vals)).length → wfi (nth ((nth e.fWays.xs w).fArgs.xs.map (getV (frmN m.fs (m.fs.length - 1)).vals)) k) := fun k hk => by
      rw [nth_get hk, List.getElem_map]; exact hfr.wf _
    (repeat' (first | refine s_move ?_ | refine s_assign ?_ | refine s_nil ?_ | (refine k_C ?_; first | refine s_seq ?_ | refine s_stillP foI rfl (by kernel_rfl) ?_) | (refine k_E ?_; refine e_seq ?_) | (refine k_load ?_; first | refine s_ldB rfl rfl ?_ | refine s_ld rfl om rfl ?_) | (refine k_fld ?_; first | refine s_fld rfl ?_ | refine s_fldB rfl ?_) | refine s_nilck rfl ?_))
    rw [hnf]
    (repeat' (first | refine s_move ?_ | refine s_nil ?_ | (refine k_C ?_; refine s_block ?_) | (refine k_E ?_; refine e_seq ?_) | (refine k_load ?_; first | refine s_ldB rfl rfl ?_ | refine s_ldS rfl rfl om rfl ?_ | refine s_ldSF rfl rfl om rfl ?_) | (refine k_fld ?_; first | refine s_fld rfl ?_ | refine s_fldB rfl ?_) | (refine k_idx ?_; first | refine s_idxS rfl rfl om ?_ | refine s_idxSI rfl rfl om om ?_) | (refine k_call ?_; refine s_len rfl ?_)))
    have hj : m.fs.length - 1 < m.fs.length := by omega
    have hkl := keys_le hp (frmN m.fs (m.fs.length - 1)).fn
    refine s_sub (L' := [mp EW 3 (mi (m.fs.length - 1)) (UF p m.fs (m.fs.length - 1)) (frmN m.fs (m.fs.length - 1)).vals, bagGX EW 3 (UF p m.fs) m.fs.length mi (fun j => (frmN m.fs j).vals) (m.fs.length - 1), own 2 A2 (nth e.fWays.xs w).fArgs.xs.length c2 ((nth e.fWays.xs w).fArgs.xs.map (getV (frmN m.fs (m.fs.length - 1)).vals)), own 90 Af (frsOf m.fs mi).length cf (frsOf m.fs mi), var 55 b (nth e.fWays.xs w), var 70 bm (⟨p, ⟨Af, cf, frsOf m1.fs mi⟩, ⟨m1.val, m1.trap, ⟨Al1, cl1, m1.leaks⟩, m1.steps, m1.deep, M0⟩, m1.fin⟩ : SimMachine), own 86 Al1 m1.leaks.length cl1 m1.leaks]) ((PSub.take (L' := [bagG EW 3 (UF p m.fs) m.fs.length mi (fun j => (frmN m.fs j).vals), own 2 A2 (nth e.fWays.xs w).fArgs.xs.length c2 ((nth e.fWays.xs w).fArgs.xs.map (getV (frmN m.fs (m.fs.length - 1)).vals)), own 90 Af (frsOf m.fs mi).length cf (frsOf m.fs mi), var 55 b (nth e.fWays.xs w), var 70 bm (⟨p, ⟨Af, cf, frsOf m1.fs mi⟩, ⟨m1.val, m1.trap, ⟨Al1, cl1, m1.leaks⟩, m1.steps, m1.deep, M0⟩, m1.fin⟩ : SimMachine), own 86 Al1 m1.leaks.length cl1 m1.leaks]) [2, 0, 0, 0, 1, 1] rfl).trans (PSub.bagGout (by omega))) ?_
    refine s_loop (σ := Nat) (fun k => [(1, pt Af ((m.fs.length - 1) * 5)), (8, .pointer (some ⟨b, 0, none⟩)), (9, .slice A2 (nth e.fWays.xs w).fArgs.xs.length c2), (72, .slice (nth (nth p.fFuncs.xs (frmN m.fs (m.fs.length - 1)).fn).fBlocks.xs (nth e.fWays.xs w).fTo.toNat).fParams.A (nth (nth p.fFuncs.xs (frmN m.fs (m.fs.length - 1)).fn).fBlocks.xs (nth e.fWays.xs w).fTo.toNat).fParams.xs.length (nth (nth p.fFuncs.xs (frmN m.fs (m.fs.length - 1)).fn).fBlocks.xs (nth e.fWays.xs w).fTo.toNat).fParams.c), (73, .int .i64 (nth (nth p.fFuncs.xs (frmN m.fs (m.fs.length - 1)).fn).fBlocks.xs (nth e.fWays.xs w).fTo.toNat).fParams.xs.length), (74, .int .i64 (k : Nat))])
      (fun k => [mp EW 3 (mi (m.fs.length - 1)) (UF p m.fs (m.fs.length - 1) + k) (putN (nth (nth p.fFuncs.xs (frmN m.fs (m.fs.length - 1)).fn).fBlocks.xs (nth e.fWays.xs w).fTo.toNat).fParams.xs ((nth e.fWays.xs w).fArgs.xs.map (getV (frmN m.fs (m.fs.length - 1)).vals)) (frmN m.fs (m.fs.length - 1)).vals k), bagGX EW 3 (UF p m.fs) m.fs.length mi (fun j => (frmN m.fs j).vals) (m.fs.length - 1), own 2 A2 (nth e.fWays.xs w).fArgs.xs.length c2 ((nth e.fWays.xs w).fArgs.xs.map (getV (frmN m.fs (m.fs.length - 1)).vals)), own 90 Af (frsOf m.fs mi).length cf (frsOf m.fs mi), var 55 b (nth e.fWays.xs w), var 70 bm (⟨p, ⟨Af, cf, frsOf m1.fs mi⟩, ⟨m1.val, m1.trap, ⟨Al1, cl1, m1.leaks⟩, m1.steps, m1.deep, M0⟩, m1.fin⟩ : SimMachine), own 86 Al1 m1.leaks.length cl1 m1.leaks])
      (fun k => k ≤ (nth (nth p.fFuncs.xs (frmN m.fs (m.fs.length - 1)).fn).fBlocks.xs (nth e.fWays.xs w).fTo.toNat).fParams.xs.length) (fun k => (nth (nth p.fFuncs.xs (frmN m.fs (m.fs.length - 1)).fn).fBlocks.xs (nth e.fWays.xs w).fTo.toNat).fParams.xs.length - k) 0 (by repeat (first | exact trivial | refine ⟨rfl, ?_⟩)) (Nat.zero_le _) PSub.refl ?_
    rintro g k hk
    (repeat' (first | refine s_nil ?_ | (refine k_C ?_; first | refine s_seq ?_ | refine s_region ?_) | (refine k_E ?_; refine e_seq ?_) | (refine k_bin ?_; refine s_lss rfl rfl ?_)))
    (first | (refine k_C ?_; (refine s_ifd rfl ?_ ?_ <;> intro hc <;> try (exfalso; omega))))
    · have hkl : k < (nth (nth p.fFuncs.xs (frmN m.fs (m.fs.length - 1)).fn).fBlocks.xs (nth e.fWays.xs w).fTo.toNat).fParams.xs.length := by omega
      have hml : ((nth e.fWays.xs w).fArgs.xs.map (getV (frmN m.fs (m.fs.length - 1)).vals)).length = (nth (nth p.fFuncs.xs (frmN m.fs (m.fs.length - 1)).fn).fBlocks.xs (nth e.fWays.xs w).fTo.toNat).fParams.xs.length := by rw [List.length_map, hargs]
      have hUF : UF p m.fs (m.fs.length - 1) ≤ 1800 := keys_le hp _
      (repeat' (first | refine s_move ?_ | refine s_assign ?_ | refine s_nil ?_ | (refine k_C ?_; first | refine s_seq ?_ | refine s_region ?_ | refine s_skip ?_ | refine s_block ?_) | (refine k_E ?_; refine e_seq ?_) | (refine k_load ?_; refine s_ldS rfl rfl om rfl ?_) | (refine k_idx ?_; refine s_idxS rfl rfl om ?_)))
      refine s_tail (F := ?F3) 9 [0, 1, 2, 3, 4, 5, 6, 7, 8] foI (by kernel_rfl) ?hr3 ?hn3
      case hr3 =>
        change sO _ _ _ _ _ _ (_ :: _ :: _ :: _ :: _ :: _ :: _ :: _ :: _ :: []) _ _ _
        (repeat' (first | refine s_move ?_ | refine s_nil ?_ | (refine k_load ?_; first | refine s_ld rfl om rfl ?_ | refine s_ldF rfl om rfl ?_) | (refine k_fld ?_; refine s_fld rfl ?_) | (refine k_idx ?_; refine s_idx rfl rfl om ?_) | refine s_nilck rfl ?_))
        exact e_F
      case hn3 =>
        change sO _ _ _ _ _ _ (_ :: []) _ _ _
        have hpw : RdD (okOf w0 f0) w0 (nth (nth (nth p.fFuncs.xs (frmN m.fs (m.fs.length - 1)).fn).fBlocks.xs (nth e.fWays.xs w).fTo.toNat).fParams.xs k) := by infer_instance
        refine s_put (yv := nth ((nth e.fWays.xs w).fArgs.xs.map (getV (frmN m.fs (m.fs.length - 1)).vals)) k) (congrArg Value.map hb) rfl rfl (RdD.int hpw) (wfi_iff.1 (hwm k (by omega))) (by omega) ?_
        (repeat' (first | refine s_move ?_ | refine s_nil ?_ | (refine k_C ?_; refine s_region ?_) | (refine k_E ?_; first | refine e_seq ?_ | refine e_bk ?_) | (refine k_bin ?_; refine s_add1 rfl rfl om ?_)))
        exact e_lp (k + 1) (by repeat (first | exact trivial | refine ⟨rfl, ?_⟩)) (by show k + 1 ≤ _; omega) (by show _ - _ < _ - _; omega) PSub.refl
    have hkE : k = (nth (nth p.fFuncs.xs (frmN m.fs (m.fs.length - 1)).fn).fBlocks.xs (nth e.fWays.xs w).fTo.toNat).fParams.xs.length := by omega
    subst hkE
    (repeat' (first | refine s_move ?_ | (refine k_C ?_; first | refine s_region ?_ | refine s_exit ?_) | (refine k_E ?_; first | refine e_seq ?_ | refine e_seq_exit ?_ | refine e_bk_exit ?_ | refine e_lp_exit ?_) | (refine k_load ?_; refine s_ldB rfl rfl ?_) | (refine k_fld ?_; first | refine s_fld rfl ?_ | refine s_fldB rfl ?_) | refine s_nilck rfl ?_))
    refine s_stF (j := m.fs.length - 1) (o := 1) (⟨(frmN m.fs (m.fs.length - 1)).fn, (nth e.fWays.xs w).fTo, (frmN m.fs (m.fs.length - 1)).at_, ⟨some (mi (m.fs.length - 1))⟩, (frmN m.fs (m.fs.length - 1)).dst⟩ : SimFrame) rfl rfl (by rw [hnf]; rfl) (by decide) (by omega) ?_
    (repeat' (first | (refine k_fld ?_; refine s_fld rfl ?_) | refine s_nilck rfl ?_))
    refine s_stF (j := m.fs.length - 1) (o := 2) (⟨(frmN m.fs (m.fs.length - 1)).fn, (nth e.fWays.xs w).fTo, 0, ⟨some (mi (m.fs.length - 1))⟩, (frmN m.fs (m.fs.length - 1)).dst⟩ : SimFrame) rfl rfl (by rw [nth_set (by omega), if_pos rfl]; rfl) (by decide) (by omega) ?_
    (repeat' (first | refine s_nil ?_))
    obtain ⟨F2, hF2⟩ : ∃ x : Frm, x = { (frmN m.fs (m.fs.length - 1)) with block := (nth e.fWays.xs w).fTo.toNat, at_ := 0, vals := putAll (nth (nth p.fFuncs.xs (frmN m.fs (m.fs.length - 1)).fn).fBlocks.xs (nth e.fWays.xs w).fTo.toNat).fParams.xs ((nth e.fWays.xs w).fArgs.xs.map (getV (frmN m.fs (m.fs.length - 1)).vals)) (frmN m.fs (m.fs.length - 1)).vals } := ⟨_, rfl⟩
    have hm1f : m1.fs = m.fs := by rcases hm1 with rfl | ⟨l, rfl⟩ <;> rfl
    have hFIN : (finishM p m (frmN m.fs (m.fs.length - 1)) e) = { m1 with fs := m.fs.set (m.fs.length - 1) F2 } := by rw [hfin, hF2]; unfold wayM Mch.top; rw [hm1f]
    rw [hFIN]
    have hfs : frsOf (m.fs.set (m.fs.length - 1) F2) mi = ((frsOf m.fs mi).set (m.fs.length - 1) ⟨(frmN m.fs (m.fs.length - 1)).fn, (nth e.fWays.xs w).fTo, (frmN m.fs (m.fs.length - 1)).at_, ⟨some (mi (m.fs.length - 1))⟩, (frmN m.fs (m.fs.length - 1)).dst⟩).set (m.fs.length - 1) ⟨(frmN m.fs (m.fs.length - 1)).fn, (nth e.fWays.xs w).fTo, 0, ⟨some (mi (m.fs.length - 1))⟩, (frmN m.fs (m.fs.length - 1)).dst⟩ := by
      rw [frsOf_set, List.set_set, hF2]
      show List.set _ _ (⟨_, (((nth e.fWays.xs w).fTo.toNat : Nat) : Int), _, _, _⟩ : SimFrame) = _
      rw [Int.toNat_of_nonneg (by omega)]
      rfl
    have hle : (frsOf (m.fs.set (m.fs.length - 1) F2) mi).length = (frsOf m.fs mi).length := by rw [hfs, List.length_set, List.length_set]
    refine e_done0N rfl _ ((PSub.topBag (N := UF p m.fs (m.fs.length - 1) + (nth (nth p.fFuncs.xs (frmN m.fs (m.fs.length - 1)).fn).fBlocks.xs (nth e.fWays.xs w).fTo.toNat).fParams.xs.length) (V := putAll (nth (nth p.fFuncs.xs (frmN m.fs (m.fs.length - 1)).fn).fBlocks.xs (nth e.fWays.xs w).fTo.toNat).fParams.xs ((nth e.fWays.xs w).fArgs.xs.map (getV (frmN m.fs (m.fs.length - 1)).vals)) (frmN m.fs (m.fs.length - 1)).vals) (f := F2) h0 (by rw [hF2]) (by rw [hF2]) ?_).trans ((PSub.take [4, 2, 0, 2] rfl).trans (PSub.eq ?_))) ⟨Al1, cl1, rfl⟩
    · intro u hu
      rcases putN_sub (Nat.le_refl _) u hu with h | h
      · have := par_made (f := nth p.fFuncs.xs (frmN m.fs (m.fs.length - 1)).fn) hto3 u h
        rw [hF2]; exact this
      · rw [hF2]; exact hke u h
    · show [_, own _ _ _ _ _, _, _] = [_, own _ _ (frsOf (m.fs.set (m.fs.length - 1) F2) mi).length _ (frsOf (m.fs.set (m.fs.length - 1) F2) mi), _, _]
      rw [hle, mv_fs (ys := frsOf (m.fs.set (m.fs.length - 1) F2) mi) (by rw [hm1f, hle]), hfs]
end Go.Proofs.Ytoknjpmlloikhaa
