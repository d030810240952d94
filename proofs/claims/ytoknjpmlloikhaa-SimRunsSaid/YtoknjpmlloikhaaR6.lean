/- Layer 8: an instruction, walked. -/
import Derived.Test.YtoknjpmlloikhaaR5
namespace Go.Proofs.Ytoknjpmlloikhaa
set_option linter.unusedVariables false
set_option linter.unusedSimpArgs false
open Go Go.RowKit

theorem divides_spec (x : Int) : Spec Try.prog 45 [.int .i64 x] [] (fun _ _ => True) fun r L' => r = .bool (decide (divides x)) ∧ L' = [] := by
  refine spec_of Try.func45 rfl rfl fun w0 f0 _ => ?_
  unfold divides
  (repeat' (first | refine s_move ?_ | refine s_assign ?_ | refine s_nil ?_ | (refine k_C ?_; first | refine s_seq ?_ | refine s_region ?_ | refine s_ret ?_) | (refine k_E ?_; refine e_seq ?_) | (refine k_bin ?_; refine s_eql rfl rfl ?_) | (refine k_guard ?_; first | refine s_on rfl rfl ?_ | refine s_off rfl rfl rfl rfl ?_ | (refine s_casesd rfl rfl ?_ ?_ <;> intro hc <;> try (exfalso; omega))) | refine s_pick rfl ?_))
  all_goals first
    | exact e_done rfl rfl [] (PSub.take [] rfl) ⟨congrArg Value.bool (by simp [*] : true = decide (x = 4 ∨ x = 5)), rfl⟩
    | exact e_done rfl rfl [] (PSub.take [] rfl) ⟨congrArg Value.bool (by simp [*] : decide (x = 5) = decide (x = 4 ∨ x = 5)), rfl⟩
theorem wrap_wfi (x : Int) : wfi (IntKind.i64.wrap x) := by
  unfold wfi
  simp only [IntKind.wrap, IntKind.bits, IntKind.signed]
  simp
  omega
theorem doW_wfi {o a b : Int} (ha : wfi a) (hb : wfi b) : wfi (doW o a b).1 := by
  have h0 : ∀ c : Bool, wfi (boolW c) := fun c => by cases c <;> exact ⟨by decide, by decide⟩
  have hs : ∀ k : Nat, wfi (a / 2 ^ k) := fun k => by
    obtain ⟨h1, h2⟩ := ha
    have hk : (1 : Int) ≤ 2 ^ k := by
      have : (0 : Int) < 2 ^ k := Int.pow_pos (by decide)
      omega
    constructor
    · by_cases h : a < 0
      · have h3 : -9223372036854775808 ≤ a / 2 ^ k := by
          rw [Int.le_ediv_iff_mul_le (by omega)]
          generalize (2 : Int) ^ k = q at hk ⊢
          omega
        omega
      · have := Int.ediv_nonneg (show 0 ≤ a by omega) (show (0 : Int) ≤ 2 ^ k by omega)
        omega
    · by_cases h : a < 0
      · have := Int.ediv_lt_of_lt_mul (a := a) (b := 0) (c := 2 ^ k) (by omega) (by omega)
        omega
      · have := Int.ediv_le_self (2 ^ k) (show 0 ≤ a by omega)
        omega
  have ht : b ≠ 0 → wfi (a.tmod b) := fun h => by
    obtain ⟨h1, h2⟩ := ha
    have h3 : (a.tmod b).natAbs ≤ a.natAbs := by rw [Int.natAbs_tmod]; exact Nat.mod_le _ _
    by_cases h : a < 0
    · have h4 : 0 ≤ (-a).tmod b := Int.tmod_nonneg b (by omega)
      rw [Int.neg_tmod] at h4
      unfold wfi
      omega
    · have h4 := Int.tmod_nonneg b (show 0 ≤ a by omega)
      unfold wfi
      omega
  have hI : ∀ {c : Prop} [Decidable c] {x y : Int × Bool}, (c → wfi x.1) → (¬ c → wfi y.1) → wfi (if c then x else y).1 := fun hx hy => by
    split
    · exact hx (by assumption)
    · exact hy (by assumption)
  unfold doW divW
  repeat' (refine hI (fun _ => ?_) fun _ => ?_)
  all_goals first | exact wrap_wfi _ | exact h0 _ | exact hs _ | exact ht (by assumption) | exact ⟨by decide, by decide⟩
section
variable {n : Nat} {w0 : World} {f0 : FP} {ops : Array Oper} {rest : List Oper} {QC : Exit → Fr → World → Prop} {f : Fr} {L L2 : List HP} {x y z : Operand} {ty t e kt : TypeId} {pos : String} {after : Array Edge}
variable {α : Type} {E : EK Try.prog e α} {U mi : Nat → Nat} {k b : Nat} {F : Nat → Int → Option α} {key : Int} {yv : α}
/-- A place isn't none. -/
theorem s_pne {m : Bool} {d : Tmp} {yt : TypeId} [h : PtT Try.prog t] {p : Option Addr} (hx : ev f x = .pointer p) (hy : ev f y = .pointer none) (hn : sO Try.prog n w0 f0 ops m rest QC (up f d (.bool (!p.isNone))) L) (hd : Nat.blt d n = true := by rfl) :
    sO Try.prog n w0 f0 ops m (⟨some d, .binOp .neq t x y yt, ty, pos, after, none⟩ :: rest) QC f L := by
  intro w H
  obtain ⟨e, ht⟩ := h.u
  refine o_pure (v := .bool (!p.isNone)) rfl hd ?_ (hn w H)
  show (Sem.run Try.prog (do pure (Next.value (← (do eqGuard .neq t x y (ev f x) (ev f y); binOp .neq t (ev f x) (ev f y))))) w) = _
  rw [hx, hy]
  have he : (Op.equal t (.pointer p) (.pointer none)).run Try.prog w = .ok p.isNone w := run_pnil' 9999 ht
  simp [eqGuard, binOp, he, Result.andThen]
/-- A map of many is written. -/
theorem s_putG [hm : MpT Try.prog t kt e] (us : List Int) (hL : PSub w0 f0 L (bagG E kt U k mi F :: L2)) (hb : b < k) {v : Option Nat} (hv : v = some (mi b)) (hx : ev f x = .map v) (hy : ev f y = .int .i64 key) (hz : ev f z = E.enc yv) (hw : wfi key) (hg : E.good yv) (hus : us.length = U b) (hU : U b < 1000000000) (hk : Program.underlying Try.prog kt = some (.int .i64)) (hkeys : ∀ u, upd (F b) key (some yv) u ≠ none → u ∈ us)
    (hn : sO Try.prog n w0 f0 ops false rest QC f (bagG E kt U k mi (updB F b (upd (F b) key (some yv))) :: L2)) : sO Try.prog n w0 f0 ops false (⟨none, .mapUpdate t x y z, ty, pos, after, none⟩ :: rest) QC f L := by
  subst hv
  refine so_sub (hL.trans (PSub.bagGout hb)) ?_
  refine s_put (yv := yv) hx hy hz hw hg hU ?_
  refine so_sub (PSub.mpCut us hk hkeys) ?_
  rw [hus]
  exact so_sub (PSub.bagGin hb) hn
end
theorem bag_top {p : SsaProg} {fs : List Frm} {mi : Nat → Nat} {V : Int → Option Int} {f : Frm} (h0 : 0 < fs.length) (hf : f.fn = (frmN fs (fs.length - 1)).fn) (hv : f.vals = V) :
    bagG EW 3 (UF p fs) fs.length mi (updB (fun j => (frmN fs j).vals) (fs.length - 1) V) = bagG EW 3 (UF p (fs.set (fs.length - 1) f)) (fs.set (fs.length - 1) f).length mi (fun j => (frmN (fs.set (fs.length - 1) f) j).vals) := by
  rw [List.length_set]
  refine bagG_congr fun j hj => ?_
  unfold UF
  rw [frmN_set (by omega)]
  by_cases e : j = fs.length - 1
  · subst e; rw [if_pos rfl, updB_same, hf, hv]; exact ⟨rfl, rfl, rfl⟩
  · rw [if_neg e, updB_ne e]; exact ⟨rfl, rfl, rfl⟩
theorem top_frs {m m1 : Mch} {mi : Nat → Nat} {V : Int → Option Int} (h : m1.fs = m.fs) : frsOf (m1.top { frmN m.fs (m.fs.length - 1) with vals := V }).fs mi = frsOf m.fs mi := by
  unfold Mch.top; rw [h]; exact frsOf_setV
theorem put_eq {p : SsaProg} {m m1 : Mch} {mi : Nat → Nat} {d y : Int} (h0 : 0 < m.fs.length) (h : m1.fs = m.fs) : bagG EW 3 (UF p m.fs) m.fs.length mi (updB (fun j => (frmN m.fs j).vals) (m.fs.length - 1) (upd (frmN m.fs (m.fs.length - 1)).vals d (some y))) =
    bagG EW 3 (UF p (m1.top { frmN m.fs (m.fs.length - 1) with vals := putF (frmN m.fs (m.fs.length - 1)).vals d y }).fs) (m1.top { frmN m.fs (m.fs.length - 1) with vals := putF (frmN m.fs (m.fs.length - 1)).vals d y }).fs.length mi (fun j => (frmN (m1.top { frmN m.fs (m.fs.length - 1) with vals := putF (frmN m.fs (m.fs.length - 1)).vals d y }).fs j).vals) := by
  unfold Mch.top; rw [h]; exact bag_top h0 rfl rfl
/-- A row of many is turned: heads stay. -/
theorem enc_setRow {ss : List (Sl Int)} {a : Nat} {ys : List Int} (hl : ys.length = (nth ss a).xs.length) : (ss.set a ⟨(nth ss a).A, (nth ss a).c, ys⟩).flatMap Enc.enc = ss.flatMap Enc.enc := by
  rw [List.flatMap_def, List.flatMap_def]
  congr 1
  apply List.ext_getElem?
  intro j
  rw [List.getElem?_map, List.getElem?_map]
  by_cases e : a = j
  · subst e
    by_cases h : a < ss.length
    · rw [List.getElem?_set_self h, nth_some h]
      show some [Value.slice _ ys.length _] = some [Value.slice _ _ _]
      rw [hl]
    · rw [List.getElem?_eq_none (by simpa using h), List.getElem?_eq_none (by omega)]
  · rw [List.getElem?_set_ne e]
theorem own_setRow {e : TypeId} {A : Option Addr} {c : Nat} {ss : List (Sl Int)} {a : Nat} {ys : List Int} (hl : ys.length = (nth ss a).xs.length) : own e A ss.length c ss = own e A (ss.set a ⟨(nth ss a).A, (nth ss a).c, ys⟩).length c (ss.set a ⟨(nth ss a).A, (nth ss a).c, ys⟩) := by
  rw [List.length_set]
  exact own_congr (enc_setRow hl).symm
theorem mv_mem {b : Nat} {p : SsaProg} {A : Sl SimFrame} {fin : Bool} {Am : Option Addr} {cm : Nat} {xs ys : List (Sl Int)} (h : xs.length = ys.length) {v t s d : Int} {l : Sl ApiLeak} : var 70 b (⟨p, A, ⟨v, t, l, s, d, ⟨Am, cm, xs⟩⟩, fin⟩ : SimMachine) = var 70 b (⟨p, A, ⟨v, t, l, s, d, ⟨Am, cm, ys⟩⟩, fin⟩ : SimMachine) := var_congr (by
  show [_, _, _, _, _, _, _, _, _, Value.slice Am xs.length cm, _] = [_, _, _, _, _, _, _, _, _, Value.slice Am ys.length cm, _]
  rw [h])
theorem rows_nth {ss : List (Sl Int)} {m : Mch} (h : ss.map (·.xs) = m.mem) {a : Nat} (ha : a < ss.length) : (nth ss a).xs = m.row a := by
  unfold Mch.row
  rw [← h, List.getD_eq_getElem?_getD, List.getElem?_map, nth_some ha]
  rfl
theorem rows_set {ss : List (Sl Int)} {m : Mch} (h : ss.map (·.xs) = m.mem) {a : Nat} {ys : List Int} : (ss.set a ⟨(nth ss a).A, (nth ss a).c, ys⟩).map (·.xs) = m.mem.set a ys := by
  rw [List.map_set, h]
set_option maxHeartbeats 4000000 in
theorem doI_spec (bm : Nat) (p : SsaProg) (hp : FewPr p) (hG : GoodP p) (m : Mch) (hm : MchOk p m) (h0 : 0 < m.fs.length) (hst : m.steps ≤ 10000000) (Af : Option Addr) (cf : Nat) (mi : Nat → Nat) (Al : Option Addr) (cl : Nat) (Am : Option Addr) (cm : Nat) (ss : List (Sl Int)) (hss : ss.map (·.xs) = m.mem) (i : SsaIns) (hi : InsR p i) (hdk : i.fDst ≠ 0 → i.fDst ∈ keysOf p (frmN m.fs (m.fs.length - 1)).fn) (hia : i.fArgs.xs.length ≤ 20) :
    Spec Try.prog 29 [.pointer (some ⟨bm, 0, none⟩), pt Af ((m.fs.length - 1) * 5), .agg (Enc.enc i).toArray] [var 70 bm (⟨p, ⟨Af, cf, frsOf m.fs mi⟩, ⟨m.val, m.trap, ⟨Al, cl, m.leaks⟩, m.steps, m.deep, ⟨Am, cm, ss⟩⟩, m.fin⟩ : SimMachine), own 90 Af (frsOf m.fs mi).length cf (frsOf m.fs mi), bagG EW 3 (UF p m.fs) m.fs.length mi (fun j => (frmN m.fs j).vals), own 86 Al m.leaks.length cl m.leaks, own 45 Am ss.length cm ss, rws 2 ss] (fun ok w => RdD ok w p ∧ RdD ok w i)
      fun v L' => (doI p m (frmN m.fs (m.fs.length - 1)) i = none ∧ v = .bool false) ∨ ∃ m2, doI p m (frmN m.fs (m.fs.length - 1)) i = some m2 ∧ v = .bool true ∧ ∃ Af2 cf2 mi2 Al2 cl2 ss2, ss2.map (·.xs) = m2.mem ∧ L' = [var 70 bm (⟨p, ⟨Af2, cf2, frsOf m2.fs mi2⟩, ⟨m2.val, m2.trap, ⟨Al2, cl2, m2.leaks⟩, m2.steps, m2.deep, ⟨Am, cm, ss2⟩⟩, m2.fin⟩ : SimMachine), own 90 Af2 (frsOf m2.fs mi2).length cf2 (frsOf m2.fs mi2), bagG EW 3 (UF p m2.fs) m2.fs.length mi2 (fun j => (frmN m2.fs j).vals), own 86 Al2 m2.leaks.length cl2 m2.leaks, own 45 Am ss2.length cm ss2, rws 2 ss2] := by
  refine spec_of Try.func29 rfl rfl fun w0 f0 hR => ?_
  obtain ⟨hRp, hRi⟩ := hR
  have hfrl : (frsOf m.fs mi).length = m.fs.length := by unfold frsOf; rw [List.length_mapIdx]
  have hfr := hm.fr (m.fs.length - 1) (by omega)
  have hke := hfr.keys
  have hb : (nth (frsOf m.fs mi) (m.fs.length - 1)).fVals.b = some (mi (m.fs.length - 1)) := by rw [frsOf_nth (by omega)]
  have hop := hi.op
  have hdw : wfi i.fDst := RdD.int (ok := okOf w0 f0) (w := w0) (by infer_instance)
  have hnw : wfi i.fNum := RdD.int (ok := okOf w0 f0) (w := w0) (by infer_instance)
  have hwm : ∀ k, k < i.fArgs.xs.length → wfi (nth (i.fArgs.xs.map (getV (frmN m.fs (m.fs.length - 1)).vals)) k) := fun k hk => by
    rw [nth_get (by rw [List.length_map]; exact hk), List.getElem_map]; exact hfr.wf _
  have hkl := keys_le hp (frmN m.fs (m.fs.length - 1)).fn
  have hkd : ∀ y, i.fDst ≠ 0 → ∀ u, upd (frmN m.fs (m.fs.length - 1)).vals i.fDst (some y) u ≠ none → u ∈ keysOf p (frmN m.fs (m.fs.length - 1)).fn := fun y hd u hu => by
    unfold upd at hu
    split at hu
    · rename_i e; rw [e]; exact hdk hd
    · exact hke u hu
  (repeat' (first | refine s_move ?_ | refine s_assign ?_ | refine s_nil ?_ | (refine k_C ?_; first | refine s_seq ?_ | refine s_region ?_) | (refine k_E ?_; refine e_seq ?_) | (refine k_load ?_; refine s_ldB rfl rfl ?_) | (refine k_fld ?_; refine s_fldB rfl ?_) | (refine s_box _ rfl ?_; intro b)))
  refine s_call (L2 := [var 51 b i, var 70 bm (⟨p, ⟨Af, cf, frsOf m.fs mi⟩, ⟨m.val, m.trap, ⟨Al, cl, m.leaks⟩, m.steps, m.deep, ⟨Am, cm, ss⟩⟩, m.fin⟩ : SimMachine), own 86 Al m.leaks.length cl m.leaks, own 45 Am ss.length cm ss, rws 2 ss]) [2, 2] (values_spec Af cf (frsOf m.fs mi) (m.fs.length - 1) (by omega) (UF p m.fs) mi m.fs.length (fun j => (frmN m.fs j).vals) (by omega) hb i.fArgs (by omega)) rfl rfl (fun w1 f1 C => C.rd (by infer_instance)) ?_
  rintro v L' ⟨A2, c2, rfl, rfl⟩
  (repeat' (first | refine s_assign ?_ | refine s_nil ?_ | (refine k_C ?_; first | refine s_seq ?_ | refine s_region ?_ | refine s_block ?_) | (refine k_E ?_; refine e_seq ?_) | (refine k_load ?_; refine s_ldB rfl rfl ?_) | (refine k_bin ?_; refine s_eql rfl rfl ?_) | (refine k_fld ?_; refine s_fldB rfl ?_)))
  refine s_cutE (σ := Mch × (Nat → Nat) × Option Addr × Nat × List (Sl Int)) (fun q => [(0, .pointer (some ⟨bm, 0, none⟩))]) (fun q => [var 70 bm (⟨p, ⟨Af, cf, frsOf q.1.fs q.2.1⟩, ⟨q.1.val, q.1.trap, ⟨q.2.2.1, q.2.2.2.1, q.1.leaks⟩, q.1.steps, q.1.deep, ⟨Am, cm, q.2.2.2.2⟩⟩, q.1.fin⟩ : SimMachine), own 90 Af (frsOf q.1.fs q.2.1).length cf (frsOf q.1.fs q.2.1), bagG EW 3 (UF p q.1.fs) q.1.fs.length q.2.1 (fun j => (frmN q.1.fs j).vals), own 86 q.2.2.1 q.1.leaks.length q.2.2.2.1 q.1.leaks, own 45 Am q.2.2.2.2.length cm q.2.2.2.2, rws 2 q.2.2.2.2])
    (fun q => doI p m (frmN m.fs (m.fs.length - 1)) i = some q.1 ∧ q.2.2.2.2.map (·.xs) = q.1.mem) ?_ ?_
  rotate_left
  · rintro g ⟨m2, mi2, Al2, cl2, ss2⟩ ⟨hd, hs2⟩
    dsimp only at hd hs2 ⊢
    (repeat' (first | refine s_assign ?_ | refine s_nil ?_ | (refine k_C ?_; first | refine s_seq ?_ | refine s_region ?_ | refine s_ret ?_) | (refine k_E ?_; first | refine e_seq ?_ | refine e_bk ?_)))
    exact e_done rfl rfl _ PSub.refl (.inr ⟨m2, hd, rfl, Af, cf, mi2, Al2, cl2, ss2, hs2, rfl⟩)
  have hsl : ss.length = m.mem.length := by rw [← hss, List.length_map]
  have harr : i.fOp = 3 ∨ i.fOp = 4 ∨ i.fOp = 5 ∨ i.fOp = 6 → 0 ≤ i.fArr ∧ i.fArr.toNat < ss.length := fun h => by
    obtain ⟨h1, h2⟩ := hi.arr h
    have := hm.memN
    omega
  have hrow : ∀ {a : Nat}, a < ss.length → 0 < (nth ss a).xs.length ∧ (nth ss a).xs.length ≤ 4096 ∧ ∀ k, k < (nth ss a).xs.length → wfi (nth (nth ss a).xs k) := fun {a} ha => by
    have h1 := hm.mem a (by omega)
    rw [rows_nth hss ha]
    exact ⟨h1.1, h1.2.1, fun k hk => h1.2.2 _ (nth_mem hk)⟩
  have hn2 : i.fOp = 2 → i.fArgs.xs.length = 2 := fun h => hi.n.2.1 (.inl h)
  have hn4 : i.fOp = 4 → i.fArgs.xs.length = 1 := fun h => hi.n.2.2 (.inl h)
  have hn5 : i.fOp = 5 → i.fArgs.xs.length = 1 := fun h => hi.n.2.2 (.inr h)
  have hn6 : i.fOp = 6 → i.fArgs.xs.length = 2 := fun h => hi.n.2.1 (.inr h)
  have hda : ¬ (i.fOp = 4 ∨ i.fOp = 6) → i.fDst ≠ 0 := fun h => by have := hi.dst.1 (by omega); omega
  (repeat' (first | refine s_move ?_ | refine s_assign ?_ | refine s_nil ?_ | (refine k_C ?_; first | refine s_seq ?_ | refine s_region ?_ | (refine s_ifd rfl ?_ ?_ <;> intro hc <;> try (exfalso; omega))) | (refine k_E ?_; refine e_seq ?_) | (refine k_load ?_; first | refine s_ldB rfl rfl ?_ | refine s_ld rfl om rfl ?_) | (refine k_bin ?_; refine s_eql rfl rfl ?_) | (refine k_fld ?_; refine s_fldB rfl ?_) | (refine k_idx ?_; refine s_idx rfl rfl om ?_)))
  · --{
    refine s_tail (F := ?F1) 8 [0, 1, 2, 3, 4, 5, 6, 7] foI (by kernel_rfl) ?hr1 ?hn1
    case hr1 =>
      change sO _ _ _ _ _ _ (_ :: _ :: _ :: _ :: _ :: _ :: _ :: _ :: []) _ _ _
      (repeat' (first | refine s_move ?_ | refine s_nil ?_ | (refine k_load ?_; first | refine s_ldB rfl rfl ?_ | refine s_ldF rfl om rfl ?_) | (refine k_fld ?_; first | refine s_fld rfl ?_ | refine s_fldB rfl ?_) | refine s_nilck rfl ?_))
      exact e_F
    case hn1 =>
      change sO _ _ _ _ _ _ (_ :: []) _ _ _
      refine s_putG (b := m.fs.length - 1) (k := m.fs.length) (yv := i.fNum) (keysOf p (frmN m.fs (m.fs.length - 1)).fn) (L2 := [own 2 A2 i.fArgs.xs.length c2 (i.fArgs.xs.map (getV (frmN m.fs (m.fs.length - 1)).vals)), own 90 Af (frsOf m.fs mi).length cf (frsOf m.fs mi), var 51 b i, var 70 bm (⟨p, ⟨Af, cf, frsOf m.fs mi⟩, ⟨m.val, m.trap, ⟨Al, cl, m.leaks⟩, m.steps, m.deep, ⟨Am, cm, ss⟩⟩, m.fin⟩ : SimMachine), own 86 Al m.leaks.length cl m.leaks, own 45 Am ss.length cm ss, rws 2 ss]) (PSub.take [2, 0, 0, 0, 0, 0, 0, 0] rfl) (by omega) hb rfl rfl rfl hdw (wfi_iff.1 hnw) rfl (Nat.lt_of_le_of_lt hkl (by decide)) U_3 (hkd _ (hda (by omega))) ?_
      (repeat' (first | refine s_nil ?_))
      refine e_ct (m.top { (frmN m.fs (m.fs.length - 1)) with vals := putF (frmN m.fs (m.fs.length - 1)).vals i.fDst i.fNum }, mi, Al, cl, ss) (by repeat (first | exact trivial | refine ⟨rfl, ?_⟩)) ⟨by unfold doI; rw [if_pos hc], hss⟩ ((PSub.take [4, 2, 0, 2, 2, 2] rfl).trans (PSub.eq ?_))
      dsimp only
      rw [top_frs rfl, ← put_eq h0 rfl]
      rfl
    --}
  · --{
    refine s_call0 (divides_spec i.fBin) rfl (fun _ _ => trivial) ?_
    rintro v L' ⟨rfl, rfl⟩
    have hl2 := hn2 hc
    have hop2 := hc
    clear hc
    (repeat' (first | refine s_nil ?_ | (refine k_E ?_; refine e_seq ?_)))
    refine s_cutI (σ := Mch × Option Addr × Nat) (fun q => [(0, .pointer (some ⟨bm, 0, none⟩)), (1, pt Af ((m.fs.length - 1) * 5)), (5, .pointer (some ⟨b, 0, none⟩)), (7, .slice A2 i.fArgs.xs.length c2)]) (fun q => [own 2 A2 i.fArgs.xs.length c2 (i.fArgs.xs.map (getV (frmN m.fs (m.fs.length - 1)).vals)), own 90 Af (frsOf m.fs mi).length cf (frsOf m.fs mi), bagG EW 3 (UF p m.fs) m.fs.length mi (fun j => (frmN m.fs j).vals), var 51 b i, var 70 bm (⟨p, ⟨Af, cf, frsOf q.1.fs mi⟩, ⟨q.1.val, q.1.trap, ⟨q.2.1, q.2.2, q.1.leaks⟩, q.1.steps, q.1.deep, ⟨Am, cm, ss⟩⟩, q.1.fin⟩ : SimMachine), own 86 q.2.1 q.1.leaks.length q.2.2 q.1.leaks, own 45 Am ss.length cm ss, rws 2 ss])
      (fun q => q.1 = if divides i.fBin then m.leak ⟨3, nth (i.fArgs.xs.map (getV (frmN m.fs (m.fs.length - 1)).vals)) 0, nth (i.fArgs.xs.map (getV (frmN m.fs (m.fs.length - 1)).vals)) 1⟩ else m) ?_ ?_
    · (repeat' (first | (refine k_C ?_; first | refine s_skip ?_ | (refine s_ifd rfl ?_ ?_ <;> intro hc <;> try (exfalso; omega)))))
      · refine s_tail (F := ?F2) 7 [0, 1, 2, 3, 4, 5, 6] foI (by kernel_rfl) ?hr2 ?hn2
        case hr2 =>
          change sO _ _ _ _ _ _ (_ :: _ :: _ :: _ :: _ :: _ :: _ :: []) _ _ _
          (repeat' (first | refine s_move ?_ | refine s_nil ?_ | (refine k_load ?_; refine s_ld rfl om rfl ?_) | (refine k_idx ?_; refine s_idx rfl rfl om ?_)))
          exact e_F
        case hn2 =>
          change sO _ _ _ _ _ _ (_ :: []) _ _ _
          refine s_call (L2 := [own 2 A2 i.fArgs.xs.length c2 (i.fArgs.xs.map (getV (frmN m.fs (m.fs.length - 1)).vals)), own 90 Af (frsOf m.fs mi).length cf (frsOf m.fs mi), bagG EW 3 (UF p m.fs) m.fs.length mi (fun j => (frmN m.fs j).vals), var 51 b i, own 45 Am ss.length cm ss, rws 2 ss]) [4, 4] (leak_spec bm p ⟨Af, cf, frsOf m.fs mi⟩ ⟨m.val, m.trap, ⟨Al, cl, m.leaks⟩, m.steps, m.deep, ⟨Am, cm, ss⟩⟩ m.fin 3 (nth (i.fArgs.xs.map (getV (frmN m.fs (m.fs.length - 1)).vals)) 0) (nth (i.fArgs.xs.map (getV (frmN m.fs (m.fs.length - 1)).vals)) 1) (by have := hm.leaks; show m.leaks.length ≤ _; omega)) rfl rfl (fun _ _ _ => trivial) ?_
          rintro v L' ⟨A1, c1, rfl⟩
          (repeat' (first | refine s_nil ?_))
          refine e_ct (m.leak ⟨3, nth (i.fArgs.xs.map (getV (frmN m.fs (m.fs.length - 1)).vals)) 0, nth (i.fArgs.xs.map (getV (frmN m.fs (m.fs.length - 1)).vals)) 1⟩, A1, c1) (by repeat (first | exact trivial | refine ⟨rfl, ?_⟩)) (by show _ = if _ then _ else _; rw [if_pos hc]) (PSub.take [2, 2, 2, 2, 0, 0, 0, 0] rfl)
      · refine e_ct (m, Al, cl) (by repeat (first | exact trivial | refine ⟨rfl, ?_⟩)) (by show _ = if _ then _ else _; rw [if_neg hc]) PSub.refl
    · rintro g ⟨m1, A1, c1⟩ hm1
      dsimp only at hm1 ⊢
      (repeat' (first | (refine k_C ?_; refine s_seq ?_)))
      refine s_draw _ 13 foI (by kernel_rfl) PSub.refl fun hD => ?_
      refine d_rd (fuel := 6) #[true, true, true, true, true, true, true, true, false, false, false, false, false, false] [0, 1, 2, 3, 4, 5, 6, 7] ?F3 hD (by kernel_rfl) ?hr3 ?hn3
      case hr3 =>
        change sO _ _ _ _ _ _ (_ :: _ :: _ :: _ :: _ :: _ :: _ :: _ :: []) _ _ _
        (repeat' (first | refine s_move ?_ | refine s_nil ?_ | (refine k_load ?_; first | refine s_ldB rfl rfl ?_ | refine s_ld rfl om rfl ?_) | (refine k_fld ?_; refine s_fldB rfl ?_) | (refine k_idx ?_; refine s_idx rfl rfl om ?_)))
        exact e_F
      refine d_all (fuel := 5) [8] (by kernel_rfl) ⟨?_, trivial⟩
      change sO _ _ _ _ _ _ (_ :: []) _ _ _
      refine s_call0 (do_spec _ _ _) rfl (fun _ _ => trivial) ?_
      rintro r L' ⟨rfl, rfl⟩
      (repeat' (first | refine s_nil ?_))
      refine e_sd PSub.refl ?_
      refine d_rd (fuel := 1) #[true, true, true, true, true, true, true, true, true, true, true, true, true, false] [9, 10, 11, 12] ?F4 hD (by kernel_rfl) ?hr4 ?hn4
      case hr4 =>
        change sO _ _ _ _ _ _ (_ :: _ :: _ :: _ :: []) _ _ _
        (repeat' (first | refine s_move ?_ | refine s_assign ?_ | refine s_nil ?_ | refine s_extract rfl rfl ?_))
        exact e_F
      refine d_end hD (by kernel_rfl) rfl ?_
      change sO _ _ _ _ _ _ (_ :: []) _ _ _
      (repeat' (first | refine s_assign ?_ | refine s_nil ?_ | (refine k_C ?_; refine s_seq ?_) | (refine k_E ?_; refine e_seq ?_)))
      have hm1f : m1.fs = m.fs := by rw [hm1]; split <;> rfl
      have hm1m : m1.mem = m.mem := by rw [hm1]; split <;> rfl
      refine s_tail (F := ?F5) 7 [0, 1, 2, 3, 4, 5, 6] foI (by kernel_rfl) ?hr5 ?hn5
      case hr5 =>
        change sO _ _ _ _ _ _ (_ :: _ :: _ :: _ :: _ :: _ :: _ :: []) _ _ _
        (repeat' (first | refine s_move ?_ | refine s_nil ?_ | (refine k_load ?_; first | refine s_ldB rfl rfl ?_ | refine s_ldF rfl om rfl ?_) | (refine k_fld ?_; first | refine s_fld rfl ?_ | refine s_fldB rfl ?_) | refine s_nilck rfl ?_))
        exact e_F
      case hn5 =>
        change sO _ _ _ _ _ _ (_ :: []) _ _ _
        have hdo : wfi (doW i.fBin (nth (i.fArgs.xs.map (getV (frmN m.fs (m.fs.length - 1)).vals)) 0) (nth (i.fArgs.xs.map (getV (frmN m.fs (m.fs.length - 1)).vals)) 1)).1 := doW_wfi (hwm 0 (by omega)) (hwm 1 (by omega))
        generalize hz : doW i.fBin (nth (i.fArgs.xs.map (getV (frmN m.fs (m.fs.length - 1)).vals)) 0) (nth (i.fArgs.xs.map (getV (frmN m.fs (m.fs.length - 1)).vals)) 1) = z at hdo ⊢
        refine s_putG (b := m.fs.length - 1) (k := m.fs.length) (yv := z.1) (keysOf p (frmN m.fs (m.fs.length - 1)).fn) (L2 := [own 2 A2 i.fArgs.xs.length c2 (i.fArgs.xs.map (getV (frmN m.fs (m.fs.length - 1)).vals)), own 90 Af (frsOf m.fs mi).length cf (frsOf m.fs mi), var 51 b i, var 70 bm (⟨p, ⟨Af, cf, frsOf m1.fs mi⟩, ⟨m1.val, m1.trap, ⟨A1, c1, m1.leaks⟩, m1.steps, m1.deep, ⟨Am, cm, ss⟩⟩, m1.fin⟩ : SimMachine), own 86 A1 m1.leaks.length c1 m1.leaks, own 45 Am ss.length cm ss, rws 2 ss]) (PSub.take [2, 0, 0, 0, 0, 0, 0, 0] rfl) (by omega) hb rfl rfl rfl hdw (wfi_iff.1 hdo) rfl (Nat.lt_of_le_of_lt hkl (by decide)) U_3 (hkd _ (hda (by omega))) ?_
        have hd2 : doI p m (frmN m.fs (m.fs.length - 1)) i = some (if z.2 = true then m1.top { (frmN m.fs (m.fs.length - 1)) with vals := putF (frmN m.fs (m.fs.length - 1)).vals i.fDst z.1 } else (m1.top { (frmN m.fs (m.fs.length - 1)) with vals := putF (frmN m.fs (m.fs.length - 1)).vals i.fDst z.1 }).stop 2) := by
          unfold doI
          rw [if_neg (by omega), if_pos hop2, hm1, ← hz]
        (repeat' (first | refine s_move ?_ | refine s_nil ?_ | (refine k_C ?_; first | refine s_seq ?_ | refine s_region ?_ | refine s_skip ?_ | (refine s_if rfl ?_ ?_ <;> intro hc)) | (refine k_E ?_; refine e_seq ?_) | refine s_not rfl ?_))
        · have hz2 : z.2 = false := by simpa using hc
          refine s_call (L2 := [bagG EW 3 (UF p m.fs) m.fs.length mi (updB (fun j => (frmN m.fs j).vals) (m.fs.length - 1) (upd (frmN m.fs (m.fs.length - 1)).vals i.fDst (some z.1))), own 2 A2 i.fArgs.xs.length c2 (i.fArgs.xs.map (getV (frmN m.fs (m.fs.length - 1)).vals)), own 90 Af (frsOf m.fs mi).length cf (frsOf m.fs mi), var 51 b i, own 86 A1 m1.leaks.length c1 m1.leaks, own 45 Am ss.length cm ss, rws 2 ss]) [4] (trap_spec bm p ⟨Af, cf, frsOf m1.fs mi⟩ ⟨m1.val, m1.trap, ⟨A1, c1, m1.leaks⟩, m1.steps, m1.deep, ⟨Am, cm, ss⟩⟩ m1.fin 2) rfl rfl (fun _ _ _ => trivial) ?_
          rintro v L' rfl
          (repeat' (first | refine s_nil ?_))
          rw [if_neg (by rw [hz2]; decide)] at hd2
          refine e_ct (_, mi, A1, c1, ss) (by repeat (first | exact trivial | refine ⟨rfl, ?_⟩)) ⟨hd2, by show _ = m1.mem; rw [hm1m]; exact hss⟩ ((PSub.take [0, 2, 0, 2, 2, 2] rfl).trans (PSub.eq ?_))
          rw [hm1f, put_eq (m1 := m1) h0 hm1f, ← top_frs (m1 := m1) (V := putF (frmN m.fs (m.fs.length - 1)).vals i.fDst z.1) hm1f]
          rfl
        · have hz2 : z.2 = true := by simpa using hc
          rw [if_pos hz2] at hd2
          refine e_ct (m1.top { (frmN m.fs (m.fs.length - 1)) with vals := putF (frmN m.fs (m.fs.length - 1)).vals i.fDst z.1 }, mi, A1, c1, ss) (by repeat (first | exact trivial | refine ⟨rfl, ?_⟩)) ⟨hd2, by show _ = m1.mem; rw [hm1m]; exact hss⟩ ((PSub.take [4, 2, 0, 2, 2, 2] rfl).trans (PSub.eq ?_))
          rw [hm1f, put_eq (m1 := m1) h0 hm1f, ← top_frs (m1 := m1) (V := putF (frmN m.fs (m.fs.length - 1)).vals i.fDst z.1) hm1f]
          rfl
    --}
  · --{
    obtain ⟨ha0, ha1⟩ := harr (by omega)
    obtain ⟨hr0, hr1, hr2⟩ := hrow ha1
    have hop3 := hc
    refine s_tail (F := ?F6) 17 [0, 1, 2, 3, 4, 5, 6, 7, 8, 9, 10, 11, 12, 13, 14, 15, 16] foI (by kernel_rfl) ?hr6 ?hn6
    case hr6 =>
      change sO _ _ _ _ _ _ (_ :: _ :: _ :: _ :: _ :: _ :: _ :: _ :: _ :: _ :: _ :: _ :: _ :: _ :: _ :: _ :: _ :: []) _ _ _
      (repeat' (first | refine s_move ?_ | refine s_nil ?_ | (refine k_load ?_; first | refine s_ldB rfl rfl ?_ | refine s_ld rfl om rfl ?_ | refine s_ldF rfl om rfl ?_ | refine s_ldR rfl om rfl ?_) | (refine k_fld ?_; first | refine s_fld rfl ?_ | refine s_fldB rfl ?_) | (refine k_idx ?_; first | refine s_idxI rfl rfl om om ?_ | refine s_idxR rfl rfl om ?_) | refine s_nilck rfl ?_))
      exact e_F
    case hn6 =>
      change sO _ _ _ _ _ _ (_ :: []) _ _ _
      refine s_putG (b := m.fs.length - 1) (k := m.fs.length) (yv := nth (nth ss i.fArr.toNat).xs 0) (keysOf p (frmN m.fs (m.fs.length - 1)).fn) (L2 := [own 2 A2 i.fArgs.xs.length c2 (i.fArgs.xs.map (getV (frmN m.fs (m.fs.length - 1)).vals)), own 90 Af (frsOf m.fs mi).length cf (frsOf m.fs mi), var 51 b i, var 70 bm (⟨p, ⟨Af, cf, frsOf m.fs mi⟩, ⟨m.val, m.trap, ⟨Al, cl, m.leaks⟩, m.steps, m.deep, ⟨Am, cm, ss⟩⟩, m.fin⟩ : SimMachine), own 86 Al m.leaks.length cl m.leaks, own 45 Am ss.length cm ss, rws 2 ss]) (PSub.take [2, 0, 0, 0, 0, 0, 0, 0] rfl) (by omega) hb rfl rfl rfl hdw (wfi_iff.1 (hr2 0 hr0)) rfl (Nat.lt_of_le_of_lt hkl (by decide)) U_3 (hkd _ (hda (by omega))) ?_
      (repeat' (first | refine s_nil ?_))
      refine e_ct (m.top { (frmN m.fs (m.fs.length - 1)) with vals := putF (frmN m.fs (m.fs.length - 1)).vals i.fDst (nth (nth ss i.fArr.toNat).xs 0) }, mi, Al, cl, ss) (by repeat (first | exact trivial | refine ⟨rfl, ?_⟩)) ⟨by unfold doI; rw [if_neg (by omega), if_neg (by omega), if_pos hop3, rows_nth hss ha1], hss⟩ ((PSub.take [4, 2, 0, 2, 2, 2] rfl).trans (PSub.eq ?_))
      dsimp only
      rw [top_frs rfl, ← put_eq h0 rfl]
      rfl
    --}
  · --{
    obtain ⟨ha0, ha1⟩ := harr (by omega)
    obtain ⟨hr0, hr1, hr2⟩ := hrow ha1
    have hop3 := hc
    have hl4 := hn4 hc
    refine s_tail (F := ?F7) 12 [0, 1, 2, 3, 4, 5, 6, 7, 8, 9, 10, 11] foI (by kernel_rfl) ?hr7 ?hn7
    case hr7 =>
      change sO _ _ _ _ _ _ (_ :: _ :: _ :: _ :: _ :: _ :: _ :: _ :: _ :: _ :: _ :: _ :: []) _ _ _
      (repeat' (first | refine s_move ?_ | refine s_nil ?_ | (refine k_load ?_; first | refine s_ldB rfl rfl ?_ | refine s_ld rfl om rfl ?_) | (refine k_fld ?_; refine s_fldB rfl ?_) | (refine k_idx ?_; first | refine s_idx rfl rfl om ?_ | refine s_idxI rfl rfl om om ?_) | refine s_nilck rfl ?_))
      exact e_F
    case hn7 =>
      change sO _ _ _ _ _ _ (_ :: _ :: []) _ _ _
      refine so_sub (L' := [own 2 (nth ss i.fArr.toNat).A (nth ss i.fArr.toNat).xs.length (nth ss i.fArr.toNat).c (nth ss i.fArr.toNat).xs, rws 2 (ss.eraseIdx i.fArr.toNat), own 2 A2 i.fArgs.xs.length c2 (i.fArgs.xs.map (getV (frmN m.fs (m.fs.length - 1)).vals)), own 90 Af (frsOf m.fs mi).length cf (frsOf m.fs mi), bagG EW 3 (UF p m.fs) m.fs.length mi (fun j => (frmN m.fs j).vals), var 51 b i, var 70 bm (⟨p, ⟨Af, cf, frsOf m.fs mi⟩, ⟨m.val, m.trap, ⟨Al, cl, m.leaks⟩, m.steps, m.deep, ⟨Am, cm, ss⟩⟩, m.fin⟩ : SimMachine), own 86 Al m.leaks.length cl m.leaks, own 45 Am ss.length cm ss]) ((PSub.take [7, 0, 0, 0, 0, 0, 0, 0] rfl).trans (PSub.rowOut (by omega))) ?_
      (repeat' (first | refine s_nil ?_ | (refine k_idx ?_; refine s_idx rfl rfl om ?_) | (refine k_store ?_; refine s_st _ rfl rfl om ?_)))
      have hys : ((nth ss i.fArr.toNat).xs.set 0 (nth (i.fArgs.xs.map (getV (frmN m.fs (m.fs.length - 1)).vals)) 0)).length = (nth ss i.fArr.toNat).xs.length := List.length_set
      refine e_ct ({ m with mem := m.mem.set i.fArr.toNat ((m.row i.fArr.toNat).set 0 (nth (i.fArgs.xs.map (getV (frmN m.fs (m.fs.length - 1)).vals)) 0)) }, mi, Al, cl, ss.set i.fArr.toNat ⟨(nth ss i.fArr.toNat).A, (nth ss i.fArr.toNat).c, (nth ss i.fArr.toNat).xs.set 0 (nth (i.fArgs.xs.map (getV (frmN m.fs (m.fs.length - 1)).vals)) 0)⟩) (by repeat (first | exact trivial | refine ⟨rfl, ?_⟩)) ⟨by unfold doI; rw [if_neg (by omega), if_neg (by omega), if_neg (by omega), if_pos hop3], by dsimp only; rw [rows_set hss, rows_nth hss ha1]⟩ ((PSub.rowIn (ss := ss) (by omega) hys).trans ((PSub.take [5, 2, 2, 3, 3, 0] rfl).trans (PSub.eq ?_)))
      dsimp only
      rw [← own_setRow hys, mv_mem (xs := ss) (ys := ss.set i.fArr.toNat ⟨(nth ss i.fArr.toNat).A, (nth ss i.fArr.toNat).c, (nth ss i.fArr.toNat).xs.set 0 (nth (i.fArgs.xs.map (getV (frmN m.fs (m.fs.length - 1)).vals)) 0)⟩) (by rw [List.length_set])]
      rfl
    --}
  · --{
    obtain ⟨ha0, ha1⟩ := harr (by omega)
    obtain ⟨hr0, hr1, hr2⟩ := hrow ha1
    have hop3 := hc
    clear hc
    have hl5 := hn5 hop3
    have hwn := hwm 0 (by omega)
    refine s_call (L2 := [own 2 A2 i.fArgs.xs.length c2 (i.fArgs.xs.map (getV (frmN m.fs (m.fs.length - 1)).vals)), own 90 Af (frsOf m.fs mi).length cf (frsOf m.fs mi), bagG EW 3 (UF p m.fs) m.fs.length mi (fun j => (frmN m.fs j).vals), var 51 b i, own 45 Am ss.length cm ss, rws 2 ss]) [4, 4] (leak_spec bm p ⟨Af, cf, frsOf m.fs mi⟩ ⟨m.val, m.trap, ⟨Al, cl, m.leaks⟩, m.steps, m.deep, ⟨Am, cm, ss⟩⟩ m.fin 2 (nth (i.fArgs.xs.map (getV (frmN m.fs (m.fs.length - 1)).vals)) 0) 0 (by have := hm.leaks; show m.leaks.length ≤ _; omega)) rfl rfl (fun _ _ _ => trivial) ?_
    rintro v L' ⟨A1, c1, rfl⟩
    (repeat' (first | refine s_nil ?_ | (refine k_C ?_; refine s_seq ?_) | (refine k_E ?_; refine e_seq ?_)))
    have hac : i.fArr = ((i.fArr.toNat : Nat) : Int) := by omega
    obtain ⟨m1, hm1⟩ : ∃ x, x = m.leak ⟨2, nth (i.fArgs.xs.map (getV (frmN m.fs (m.fs.length - 1)).vals)) 0, 0⟩ := ⟨_, rfl⟩
    refine s_tail (F := ?F8) 6 [0, 1, 2, 3, 4, 5] foI (by kernel_rfl) ?hr8 ?hn8
    case hr8 =>
      change sO _ _ _ _ _ _ (_ :: _ :: _ :: _ :: _ :: _ :: []) _ _ _
      (repeat' (first | refine s_move ?_ | refine s_nil ?_ | (refine k_load ?_; first | refine s_ldB rfl rfl ?_ | refine s_ld rfl om rfl ?_) | (refine k_fld ?_; refine s_fldB rfl ?_) | (refine k_idx ?_; refine s_idx rfl rfl om ?_)))
      exact e_F
    case hn8 =>
      change sO _ _ _ _ _ _ (_ :: _ :: []) _ _ _
      refine s_call (L2 := [own 86 A1 m1.leaks.length c1 m1.leaks, own 2 A2 i.fArgs.xs.length c2 (i.fArgs.xs.map (getV (frmN m.fs (m.fs.length - 1)).vals)), own 90 Af (frsOf m.fs mi).length cf (frsOf m.fs mi), bagG EW 3 (UF p m.fs) m.fs.length mi (fun j => (frmN m.fs j).vals), var 51 b i]) [0, 5, 5] (word_spec bm p ⟨Af, cf, frsOf m.fs mi⟩ ⟨m.val, m.trap, ⟨A1, c1, m1.leaks⟩, m.steps, m.deep, ⟨Am, cm, ss⟩⟩ m.fin i.fArr.toNat ha1 (nth (i.fArgs.xs.map (getV (frmN m.fs (m.fs.length - 1)).vals)) 0) hwn (by show (nth ss i.fArr.toNat).xs.length ≤ _; omega)) (by show [_, Value.int .i64 i.fArr, _] = _; rw [hac]; rfl) (by rw [hm1]; rfl) (fun _ _ _ => trivial) ?_
      intro v L' hv
      by_cases hin : 0 ≤ nth (i.fArgs.xs.map (getV (frmN m.fs (m.fs.length - 1)).vals)) 0 ∧ nth (i.fArgs.xs.map (getV (frmN m.fs (m.fs.length - 1)).vals)) 0 < (nth ss i.fArr.toNat).xs.length
      · dsimp only at hv
        rw [if_pos hin] at hv
        obtain ⟨rfl, rfl⟩ := hv
        (repeat' (first | refine s_move ?_ | refine s_assign ?_ | refine s_nil ?_ | (refine k_C ?_; first | refine s_seq ?_ | refine s_region ?_) | (refine k_E ?_; refine e_seq ?_)))
        refine s_pne (p := some _) rfl rfl ?_
        (repeat' (first | refine s_nil ?_ | (refine k_C ?_; refine s_ift rfl ?_) | (refine k_E ?_; refine e_seq ?_)))
        refine s_tail (F := ?F9) 9 [0, 1, 2, 3, 4, 5, 6, 7, 8] foI (by kernel_rfl) ?hr9 ?hn9
        case hr9 =>
          change sO _ _ _ _ _ _ (_ :: _ :: _ :: _ :: _ :: _ :: _ :: _ :: _ :: []) _ _ _
          have hi2 : (nth (i.fArgs.xs.map (getV (frmN m.fs (m.fs.length - 1)).vals)) 0).toNat < (nth ss i.fArr.toNat).xs.length := by omega
          (repeat' (first | refine s_move ?_ | refine s_nil ?_ | (refine k_load ?_; first | refine s_ldB rfl rfl ?_ | refine s_ldF rfl om rfl ?_ | refine s_ldR rfl om rfl ?_) | (refine k_fld ?_; first | refine s_fld rfl ?_ | refine s_fldB rfl ?_) | refine s_nilck rfl ?_))
          exact e_F
        case hn9 =>
          change sO _ _ _ _ _ _ (_ :: []) _ _ _
          refine s_putG (b := m.fs.length - 1) (k := m.fs.length) (yv := nth (nth ss i.fArr.toNat).xs (nth (i.fArgs.xs.map (getV (frmN m.fs (m.fs.length - 1)).vals)) 0).toNat) (keysOf p (frmN m.fs (m.fs.length - 1)).fn) (L2 := [var 70 bm (⟨p, ⟨Af, cf, frsOf m.fs mi⟩, ⟨m.val, m.trap, ⟨A1, c1, m1.leaks⟩, m.steps, m.deep, ⟨Am, cm, ss⟩⟩, m.fin⟩ : SimMachine), own 45 Am ss.length cm ss, rws 2 ss, own 86 A1 m1.leaks.length c1 m1.leaks, own 2 A2 i.fArgs.xs.length c2 (i.fArgs.xs.map (getV (frmN m.fs (m.fs.length - 1)).vals)), own 90 Af (frsOf m.fs mi).length cf (frsOf m.fs mi), var 51 b i]) (PSub.take [6, 0, 0, 0, 0, 0, 0, 0] rfl) (by omega) hb rfl rfl rfl hdw (wfi_iff.1 (hr2 _ (by omega))) rfl (Nat.lt_of_le_of_lt hkl (by decide)) U_3 (hkd _ (hda (by omega))) ?_
          (repeat' (first | refine s_nil ?_))
          subst hm1
          refine e_ct ((m.leak ⟨2, nth (i.fArgs.xs.map (getV (frmN m.fs (m.fs.length - 1)).vals)) 0, 0⟩).top { (frmN m.fs (m.fs.length - 1)) with vals := putF (frmN m.fs (m.fs.length - 1)).vals i.fDst (nth (nth ss i.fArr.toNat).xs (nth (i.fArgs.xs.map (getV (frmN m.fs (m.fs.length - 1)).vals)) 0).toNat) }, mi, A1, c1, ss) (by repeat (first | exact trivial | refine ⟨rfl, ?_⟩)) ⟨by unfold doI; rw [if_neg (by omega), if_neg (by omega), if_neg (by omega), if_neg (by omega), if_pos hop3, ← rows_nth hss ha1]; exact if_pos hin, hss⟩ ((PSub.take [1, 5, 0, 2, 0, 0] rfl).trans (PSub.eq ?_))
          dsimp only
          rw [top_frs (m := m) (m1 := m.leak ⟨2, nth (i.fArgs.xs.map (getV (frmN m.fs (m.fs.length - 1)).vals)) 0, 0⟩) rfl, ← put_eq (m := m) (m1 := m.leak ⟨2, nth (i.fArgs.xs.map (getV (frmN m.fs (m.fs.length - 1)).vals)) 0, 0⟩) h0 rfl]
          rfl
      · dsimp only at hv
        rw [if_neg hin] at hv
        obtain ⟨rfl, rfl⟩ := hv
        (repeat' (first | refine s_move ?_ | refine s_assign ?_ | refine s_nil ?_ | (refine k_C ?_; first | refine s_seq ?_ | refine s_region ?_) | (refine k_E ?_; refine e_seq ?_)))
        refine s_pne (p := none) rfl rfl ?_
        (repeat' (first | refine s_nil ?_ | (refine k_C ?_; first | refine s_skip ?_ | refine s_iff rfl ?_) | (refine k_E ?_; refine e_seq ?_)))
        subst hm1
        refine e_ct ((m.leak ⟨2, nth (i.fArgs.xs.map (getV (frmN m.fs (m.fs.length - 1)).vals)) 0, 0⟩).stop 4, mi, A1, c1, ss) (by repeat (first | exact trivial | refine ⟨rfl, ?_⟩)) ⟨by unfold doI; rw [if_neg (by omega), if_neg (by omega), if_neg (by omega), if_neg (by omega), if_pos hop3, ← rows_nth hss ha1]; exact if_neg hin, hss⟩ ((PSub.take [0, 4, 4, 2, 0, 0] rfl).trans (PSub.eq rfl))
    --}
  · --{
    obtain ⟨ha0, ha1⟩ := harr (by omega)
    obtain ⟨hr0, hr1, hr2⟩ := hrow ha1
    have hop3 := hc
    clear hc
    have hl6 := hn6 hop3
    have hwn := hwm 0 (by omega)
    refine s_call (L2 := [own 2 A2 i.fArgs.xs.length c2 (i.fArgs.xs.map (getV (frmN m.fs (m.fs.length - 1)).vals)), own 90 Af (frsOf m.fs mi).length cf (frsOf m.fs mi), bagG EW 3 (UF p m.fs) m.fs.length mi (fun j => (frmN m.fs j).vals), var 51 b i, own 45 Am ss.length cm ss, rws 2 ss]) [4, 4] (leak_spec bm p ⟨Af, cf, frsOf m.fs mi⟩ ⟨m.val, m.trap, ⟨Al, cl, m.leaks⟩, m.steps, m.deep, ⟨Am, cm, ss⟩⟩ m.fin 2 (nth (i.fArgs.xs.map (getV (frmN m.fs (m.fs.length - 1)).vals)) 0) 0 (by have := hm.leaks; show m.leaks.length ≤ _; omega)) rfl rfl (fun _ _ _ => trivial) ?_
    rintro v L' ⟨A1, c1, rfl⟩
    (repeat' (first | refine s_nil ?_ | (refine k_C ?_; refine s_seq ?_) | (refine k_E ?_; refine e_seq ?_)))
    have hac : i.fArr = ((i.fArr.toNat : Nat) : Int) := by omega
    obtain ⟨m1, hm1⟩ : ∃ x, x = m.leak ⟨2, nth (i.fArgs.xs.map (getV (frmN m.fs (m.fs.length - 1)).vals)) 0, 0⟩ := ⟨_, rfl⟩
    refine s_tail (F := ?F10) 6 [0, 1, 2, 3, 4, 5] foI (by kernel_rfl) ?hr10 ?hn10
    case hr10 =>
      change sO _ _ _ _ _ _ (_ :: _ :: _ :: _ :: _ :: _ :: []) _ _ _
      (repeat' (first | refine s_move ?_ | refine s_nil ?_ | (refine k_load ?_; first | refine s_ldB rfl rfl ?_ | refine s_ld rfl om rfl ?_) | (refine k_fld ?_; refine s_fldB rfl ?_) | (refine k_idx ?_; refine s_idx rfl rfl om ?_)))
      exact e_F
    case hn10 =>
      change sO _ _ _ _ _ _ (_ :: _ :: []) _ _ _
      refine s_call (L2 := [own 86 A1 m1.leaks.length c1 m1.leaks, own 2 A2 i.fArgs.xs.length c2 (i.fArgs.xs.map (getV (frmN m.fs (m.fs.length - 1)).vals)), own 90 Af (frsOf m.fs mi).length cf (frsOf m.fs mi), bagG EW 3 (UF p m.fs) m.fs.length mi (fun j => (frmN m.fs j).vals), var 51 b i]) [0, 5, 5] (word_spec bm p ⟨Af, cf, frsOf m.fs mi⟩ ⟨m.val, m.trap, ⟨A1, c1, m1.leaks⟩, m.steps, m.deep, ⟨Am, cm, ss⟩⟩ m.fin i.fArr.toNat ha1 (nth (i.fArgs.xs.map (getV (frmN m.fs (m.fs.length - 1)).vals)) 0) hwn (by show (nth ss i.fArr.toNat).xs.length ≤ _; omega)) (by show [_, Value.int .i64 i.fArr, _] = _; rw [hac]; rfl) (by rw [hm1]; rfl) (fun _ _ _ => trivial) ?_
      intro v L' hv
      by_cases hin : 0 ≤ nth (i.fArgs.xs.map (getV (frmN m.fs (m.fs.length - 1)).vals)) 0 ∧ nth (i.fArgs.xs.map (getV (frmN m.fs (m.fs.length - 1)).vals)) 0 < (nth ss i.fArr.toNat).xs.length
      · dsimp only at hv
        rw [if_pos hin] at hv
        obtain ⟨rfl, rfl⟩ := hv
        (repeat' (first | refine s_move ?_ | refine s_assign ?_ | refine s_nil ?_ | (refine k_C ?_; first | refine s_seq ?_ | refine s_region ?_) | (refine k_E ?_; refine e_seq ?_)))
        refine s_pne (p := some _) rfl rfl ?_
        (repeat' (first | refine s_move ?_ | refine s_nil ?_ | (refine k_C ?_; first | refine s_region ?_ | refine s_ift rfl ?_) | (refine k_E ?_; refine e_seq ?_) | (refine k_load ?_; refine s_ld rfl om rfl ?_) | (refine k_idx ?_; refine s_idx rfl rfl om ?_) | refine s_nilck rfl ?_))
        have hi2 : (nth (i.fArgs.xs.map (getV (frmN m.fs (m.fs.length - 1)).vals)) 0).toNat < (nth ss i.fArr.toNat).xs.length := by omega
        refine so_sub (L' := [own 2 (nth ss i.fArr.toNat).A (nth ss i.fArr.toNat).xs.length (nth ss i.fArr.toNat).c (nth ss i.fArr.toNat).xs, rws 2 (ss.eraseIdx i.fArr.toNat), var 70 bm (⟨p, ⟨Af, cf, frsOf m.fs mi⟩, ⟨m.val, m.trap, ⟨A1, c1, m1.leaks⟩, m.steps, m.deep, ⟨Am, cm, ss⟩⟩, m.fin⟩ : SimMachine), own 45 Am ss.length cm ss, own 86 A1 m1.leaks.length c1 m1.leaks, own 2 A2 i.fArgs.xs.length c2 (i.fArgs.xs.map (getV (frmN m.fs (m.fs.length - 1)).vals)), own 90 Af (frsOf m.fs mi).length cf (frsOf m.fs mi), bagG EW 3 (UF p m.fs) m.fs.length mi (fun j => (frmN m.fs j).vals), var 51 b i]) ((PSub.take [2, 0, 0, 0, 0, 0, 0, 0] rfl).trans (PSub.rowOut (by omega))) ?_
        refine s_st (nth (i.fArgs.xs.map (getV (frmN m.fs (m.fs.length - 1)).vals)) 1) rfl rfl hi2 ?_
        (repeat' (first | refine s_nil ?_))
        subst hm1
        have hys : ((nth ss i.fArr.toNat).xs.set (nth (i.fArgs.xs.map (getV (frmN m.fs (m.fs.length - 1)).vals)) 0).toNat (nth (i.fArgs.xs.map (getV (frmN m.fs (m.fs.length - 1)).vals)) 1)).length = (nth ss i.fArr.toNat).xs.length := List.length_set
        refine e_ct ({ m.leak ⟨2, nth (i.fArgs.xs.map (getV (frmN m.fs (m.fs.length - 1)).vals)) 0, 0⟩ with mem := m.mem.set i.fArr.toNat ((m.row i.fArr.toNat).set (nth (i.fArgs.xs.map (getV (frmN m.fs (m.fs.length - 1)).vals)) 0).toNat (nth (i.fArgs.xs.map (getV (frmN m.fs (m.fs.length - 1)).vals)) 1)) }, mi, A1, c1, ss.set i.fArr.toNat ⟨(nth ss i.fArr.toNat).A, (nth ss i.fArr.toNat).c, (nth ss i.fArr.toNat).xs.set (nth (i.fArgs.xs.map (getV (frmN m.fs (m.fs.length - 1)).vals)) 0).toNat (nth (i.fArgs.xs.map (getV (frmN m.fs (m.fs.length - 1)).vals)) 1)⟩) (by repeat (first | exact trivial | refine ⟨rfl, ?_⟩)) ⟨by unfold doI; rw [if_neg (by omega), if_neg (by omega), if_neg (by omega), if_neg (by omega), if_neg (by omega), if_pos hop3, ← rows_nth hss ha1]; exact if_pos hin, by dsimp only; rw [rows_set hss, rows_nth hss ha1]⟩ ((PSub.rowIn (ss := ss) (by omega) hys).trans ((PSub.take [1, 4, 4, 2, 1, 0] rfl).trans (PSub.eq ?_)))
        dsimp only
        rw [← own_setRow hys, mv_mem (xs := ss) (ys := ss.set i.fArr.toNat ⟨(nth ss i.fArr.toNat).A, (nth ss i.fArr.toNat).c, (nth ss i.fArr.toNat).xs.set (nth (i.fArgs.xs.map (getV (frmN m.fs (m.fs.length - 1)).vals)) 0).toNat (nth (i.fArgs.xs.map (getV (frmN m.fs (m.fs.length - 1)).vals)) 1)⟩) (by rw [List.length_set])]
        rfl
      · dsimp only at hv
        rw [if_neg hin] at hv
        obtain ⟨rfl, rfl⟩ := hv
        (repeat' (first | refine s_move ?_ | refine s_assign ?_ | refine s_nil ?_ | (refine k_C ?_; first | refine s_seq ?_ | refine s_region ?_) | (refine k_E ?_; refine e_seq ?_)))
        refine s_pne (p := none) rfl rfl ?_
        (repeat' (first | refine s_nil ?_ | (refine k_C ?_; first | refine s_skip ?_ | refine s_iff rfl ?_) | (refine k_E ?_; refine e_seq ?_)))
        subst hm1
        refine e_ct ((m.leak ⟨2, nth (i.fArgs.xs.map (getV (frmN m.fs (m.fs.length - 1)).vals)) 0, 0⟩).stop 4, mi, A1, c1, ss) (by repeat (first | exact trivial | refine ⟨rfl, ?_⟩)) ⟨by unfold doI; rw [if_neg (by omega), if_neg (by omega), if_neg (by omega), if_neg (by omega), if_neg (by omega), if_pos hop3, ← rows_nth hss ha1]; exact if_neg hin, hss⟩ ((PSub.take [0, 4, 4, 2, 0, 0] rfl).trans (PSub.eq rfl))
    --}
  · --{
    obtain ⟨hf0, hf1, hf2, hf3⟩ := hi.fn hc
    have hop3 := hc
    clear hc
    have hfc : i.fFn = ((i.fFn.toNat : Nat) : Int) := by omega
    refine s_call (L2 := [own 2 A2 i.fArgs.xs.length c2 (i.fArgs.xs.map (getV (frmN m.fs (m.fs.length - 1)).vals)), var 51 b i, own 86 Al m.leaks.length cl m.leaks, own 45 Am ss.length cm ss, rws 2 ss]) [4, 1, 1] (enter_spec bm p hp hG Af cf m.fs mi ⟨m.val, m.trap, ⟨Al, cl, m.leaks⟩, m.steps, m.deep, ⟨Am, cm, ss⟩⟩ m.fin i.fFn.toNat (by omega) ⟨A2, c2, i.fArgs.xs.map (getV (frmN m.fs (m.fs.length - 1)).vals)⟩ (by show _ ≤ (i.fArgs.xs.map (getV (frmN m.fs (m.fs.length - 1)).vals)).length; rw [List.length_map, hf3]; exact Nat.le_refl _) i.fDst hdw (by have := hm.few; omega)) (by show [_, Value.int .i64 i.fFn, Value.slice A2 i.fArgs.xs.length c2, _] = [_, _, Value.slice A2 (i.fArgs.xs.map (getV (frmN m.fs (m.fs.length - 1)).vals)).length c2, _]; rw [List.length_map, ← hfc]; rfl) rfl (fun w1 f1 C => ⟨C.rd (by infer_instance), C.ownI A2 fun x hx => by obtain ⟨q, _, rfl⟩ := List.mem_map.1 hx; exact hfr.wf _⟩) ?_
    rintro v L' (⟨h1, rfl, rfl⟩ | ⟨h1, rfl, A3, c3, bv, rfl⟩)
    · (repeat' (first | refine s_assign ?_ | refine s_nil ?_ | (refine k_C ?_; refine s_ret ?_) | (refine k_E ?_; first | refine e_seq ?_ | refine e_seq_ret ?_ | refine e_bk_ret ?_ | refine e_ct_ret ?_)))
      exact e_done rfl rfl _ PSub.refl (.inl ⟨by unfold doI; rw [if_neg (by omega), if_neg (by omega), if_neg (by omega), if_neg (by omega), if_neg (by omega), if_neg (by omega), if_pos hop3]; unfold enterM; rw [if_pos h1], rfl⟩)
    · (repeat' (first | refine s_assign ?_ | refine s_nil ?_ | (refine k_C ?_; refine s_ret ?_) | (refine k_E ?_; first | refine e_seq ?_ | refine e_seq_ret ?_ | refine e_bk_ret ?_ | refine e_ct_ret ?_)))
      refine e_done rfl rfl _ ((PSub.take [0, 0, 0, 2, 2, 2] rfl).trans (PSub.eq ?_)) (.inr ⟨{ m with fs := m.fs ++ [⟨i.fFn.toNat, 0, 0, putAll (parsF p i.fFn.toNat) (i.fArgs.xs.map (getV (frmN m.fs (m.fs.length - 1)).vals)) fun _ => none, i.fDst⟩], deep := max m.deep (m.fs.length + 1) }, by unfold doI; rw [if_neg (by omega), if_neg (by omega), if_neg (by omega), if_neg (by omega), if_neg (by omega), if_neg (by omega), if_pos hop3]; unfold enterM; rw [if_neg (by omega)], rfl, A3, c3, updB mi m.fs.length bv, Al, cl, ss, hss, rfl⟩)
      dsimp only
      rw [show (m.fs ++ [(⟨i.fFn.toNat, 0, 0, putAll (parsF p i.fFn.toNat) (i.fArgs.xs.map (getV (frmN m.fs (m.fs.length - 1)).vals)) fun _ => none, i.fDst⟩ : Frm)]).length = m.fs.length + 1 by rw [List.length_append]; rfl]
      have hmx : ((max m.deep (m.fs.length + 1) : Nat) : Int) = max (m.deep : Int) ((m.fs.length + 1 : Nat) : Int) := by omega
      rw [hmx]
      rfl
    --}
end Go.Proofs.Ytoknjpmlloikhaa
