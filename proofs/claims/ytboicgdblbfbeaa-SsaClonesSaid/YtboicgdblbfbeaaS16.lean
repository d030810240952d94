/- Layer 7: Check. -/
import Derived.Test.YtboicgdblbfbeaaS15
import Derived.Test.YtboicgdblbfbeaaS2
namespace Go.Proofs.Ytboicgdblbfbeaa
set_option linter.unusedVariables false
set_option linter.unusedSimpArgs false
open Go Go.RowKit

def arrB (a : SsaArray) : Bool := decide (0 ≤ a.fSize ∧ a.fSize ≤ 4096 ∧ 0 ≤ a.fHold ∧ a.fHold ≤ 2)
def mainB (p : SsaProg) : Bool := decide (0 ≤ p.fMain ∧ p.fMain < p.fFuncs.xs.length ∧ (nth (nth p.fFuncs.xs p.fMain.toNat).fBlocks.xs 0).fParams.xs.length = 0)
def blkB (p : SsaProg) (f : SsaFunc) (b : SsaBlock) : Bool := endsB f b.fEnd && b.fIns.xs.all (rightB p)
def usedAt (f : SsaFunc) (s : Kn7) (n : Nat) : Bool := match s.pos[n]?.join with
  | none => true
  | some q => usedB (s.ls.getD q []) (nth f.fBlocks.xs n)
def fnB (p : SsaProg) (f : SsaFunc) : Bool := decide (0 < f.fBlocks.xs.length) && decide ((nth f.fBlocks.xs 0).fParams.xs.length ≤ 6) && onceB f && f.fBlocks.xs.all (blkB p f) && (List.range f.fBlocks.xs.length).all (usedAt f (known7 f))
def checkB (p : SsaProg) : Bool := p.fArrays.xs.all arrB && mainB p && p.fFuncs.xs.all (fnB p)
structure FewP (p : SsaProg) : Prop where
  a : p.fArrays.xs.length ≤ 100000
  n : p.fFuncs.xs.length ≤ 100000
  f : ∀ i, FewF (nth p.fFuncs.xs i)
theorem lasts_rdD {α : Type} [I : Enc α] [D : Dp α] (x : α) : Lasts (fun ok w => RdD ok w x) := fun _ _ _ _ h hk => h.loc hk

section
variable {P : Program} {n : Nat} {w0 : World} {f0 : FP} {ops : Array Oper} {m : Bool} {rest : List Oper} {QC : Exit → Fr → World → Prop} {f : Fr} {L : List HP} {x y : Operand}
variable {d : Tmp} {ty t yt kt e : TypeId} {pos : String} {after : Array Edge}
theorem s_mnn [h : MpT P t kt e] {p : Option Nat} (hx : ev f x = .map p) (hy : ev f y = .map none) (hn : sO P n w0 f0 ops m rest QC (up f d (.bool (!p.isNone))) L) (hd : Nat.blt d n = true := by rfl) :
    sO P n w0 f0 ops m (⟨some d, .binOp .neq t x y yt, ty, pos, after, none⟩ :: rest) QC f L := by
  intro w H
  refine o_pure (v := .bool (!p.isNone)) rfl hd ?_ (hn w H)
  show (Sem.run P (do pure (Next.value (← (do eqGuard .neq t x y (ev f x) (ev f y); binOp .neq t (ev f x) (ev f y))))) w) = _
  rw [hx, hy]
  have he : (Op.equal t (.map p) (.map none)).run P w = .ok p.isNone w := run_mnil' 9999 h.u
  simp [eqGuard, binOp, he, Result.andThen]
end
set_option maxHeartbeats 4000000 in
theorem check_spec (p : SsaProg) (hp : FewP p) : Spec Try.prog 8 [.agg (Enc.enc p).toArray] [] (fun ok w => RdD ok w p) fun r L' => r = .int .i64 (if checkB p = true then 0 else 40) ∧ L' = [] := by
  refine spec_of Try.func8 rfl rfl fun w0 f0 hR => ?_
  have ha := hp.a
  have hn := hp.n
  (repeat' (first | refine s_move ?_ | refine s_assign ?_ | refine s_nil ?_ | (refine k_C ?_; first | refine s_seq ?_ | refine s_region ?_ | refine s_block ?_) | (refine k_E ?_; refine e_seq ?_) | (refine k_load ?_; refine s_ldB rfl rfl ?_) | (refine k_fld ?_; refine s_fldB rfl ?_) | (refine k_call ?_; refine s_len rfl ?_) | (refine s_box _ rfl ?_; intro b)))
  obtain ⟨b1, rfl⟩ : ∃ q, q = b := ⟨_, rfl⟩
  refine s_loop (σ := Nat) (fun i => [(1, .pointer (some ⟨b1, 0, none⟩)), (12, .slice p.fArrays.A p.fArrays.xs.length p.fArrays.c), (13, .int .i64 p.fArrays.xs.length), (14, .int .i64 i)]) (fun _ => [var 26 b1 p]) (fun i => i ≤ p.fArrays.xs.length ∧ (p.fArrays.xs.take i).all arrB = true) (fun i => p.fArrays.xs.length - i) 0 (by repeat (first | exact trivial | refine ⟨rfl, ?_⟩)) ⟨Nat.zero_le _, rfl⟩ PSub.refl ?_
  rintro g i ⟨hi, hall⟩
  have no : i < p.fArrays.xs.length → arrB (nth p.fArrays.xs i) = false → checkB p = false := fun h1 h2 => by
    unfold checkB
    have : p.fArrays.xs.all arrB = false := List.all_eq_false.2 ⟨_, nth_mem h1, by simp [h2]⟩
    simp [this]
  have bad : checkB p = false → Value.int .i64 40 = Value.int .i64 (if checkB p = true then 0 else 40) := fun h => by rw [h]; rfl
  have noM : mainB p = false → checkB p = false := fun h => by unfold checkB; simp [h]
  (repeat' (first | refine s_move ?_ | refine s_assign ?_ | refine s_nil ?_ | (refine k_C ?_; first | refine s_seq ?_ | refine s_region ?_ | refine s_skip ?_ | refine s_block ?_ | refine s_exit ?_ | refine s_ret ?_ | refine s_ift rfl ?_ | (refine s_ifd rfl ?_ ?_ <;> intro hc <;> try (exfalso; omega))) | (refine k_E ?_; first | refine e_seq ?_ | refine e_seq_ret ?_ | refine e_seq_exit ?_ | refine e_bk_exit ?_ | refine e_bk_ret ?_ | refine e_bk ?_ | refine e_lp_ret ?_ | refine e_lp_exit ?_) | (refine k_load ?_; first | refine s_ldB rfl rfl ?_ | refine s_ldSA rfl rfl om rfl ?_) | (refine k_bin ?_; first | refine s_lss rfl rfl ?_ | refine s_add1 rfl rfl om ?_ | refine s_gtr rfl rfl ?_ | refine s_geq rfl rfl ?_) | (refine k_fld ?_; refine s_fldB rfl ?_) | (refine k_idx ?_; first | refine s_idxS rfl rfl om ?_ | refine s_idxSI rfl rfl om om ?_) | (refine k_store ?_; refine s_stW _ rfl rfl ?_) | (refine k_call ?_; refine s_len rfl ?_) | (refine k_guard ?_; first | refine s_on rfl rfl ?_ | refine s_off rfl rfl rfl rfl ?_ | (refine s_casesd rfl rfl ?_ ?_ <;> intro hc <;> try (exfalso; omega))) | (refine s_alloc ?_; intro b) | refine s_pick rfl ?_))
  iterate 4
    · refine e_done rfl rfl _ (PSub.take [] rfl) ⟨bad (no (by omega) ?_), rfl⟩
      unfold arrB
      exact decide_eq_false (by omega)
  · refine e_lp (i + 1) (by repeat (first | exact trivial | refine ⟨rfl, ?_⟩)) ⟨by omega, ?_⟩ (by show _ - _ < _ - _; omega) (PSub.take [1] rfl)
    rw [← take_nth (by omega), List.all_append, hall]
    simp only [List.all_cons, List.all_nil, Bool.and_true, Bool.true_and]
    exact decide_eq_true (by omega)
  iterate 2
    · refine e_done rfl rfl _ (PSub.take [] rfl) ⟨bad (noM ?_), rfl⟩
      unfold mainB
      exact decide_eq_false (by omega)
  have hi' : i = p.fArrays.xs.length := by omega
  subst hi'
  rw [List.take_length] at hall
  refine s_call0 (params_spec (nth p.fFuncs.xs p.fMain.toNat)) rfl (fun w1 H => H.rdD (by infer_instance)) ?_
  rintro v L' ⟨rfl, rfl⟩
  (repeat' (first | refine s_move ?_ | refine s_assign ?_ | refine s_nil ?_ | (refine k_C ?_; first | refine s_seq ?_ | refine s_region ?_ | refine s_skip ?_ | refine s_block ?_ | refine s_ret ?_ | (refine s_ifd rfl ?_ ?_ <;> intro hc <;> try (exfalso; omega))) | (refine k_E ?_; first | refine e_seq ?_ | refine e_seq_ret ?_) | (refine k_load ?_; refine s_ldB rfl rfl ?_) | (refine k_bin ?_; refine s_gtr rfl rfl ?_) | (refine k_fld ?_; refine s_fldB rfl ?_) | (refine k_call ?_; refine s_len rfl ?_) | (refine k_guard ?_; refine s_on rfl rfl ?_) | refine s_pick rfl ?_))
  · refine e_done rfl rfl _ (PSub.take [] rfl) ⟨bad (noM ?_), rfl⟩
    unfold mainB
    exact decide_eq_false (by omega)
  have hmain : mainB p = true := by
    unfold mainB
    exact decide_eq_true (by omega)
  refine s_loop (σ := Nat) (fun i => [(1, .pointer (some ⟨b1, 0, none⟩)), (60, .slice p.fFuncs.A p.fFuncs.xs.length p.fFuncs.c), (61, .int .i64 p.fFuncs.xs.length), (62, .int .i64 i)]) (fun _ => [var 26 b1 p]) (fun i => i ≤ p.fFuncs.xs.length ∧ (p.fFuncs.xs.take i).all (fnB p) = true) (fun i => p.fFuncs.xs.length - i) 0 (by repeat (first | exact trivial | refine ⟨rfl, ?_⟩)) ⟨Nat.zero_le _, rfl⟩ (PSub.take [0] rfl) ?_
  rintro g2 i ⟨hi, hallF⟩
  have no : i < p.fFuncs.xs.length → fnB p (nth p.fFuncs.xs i) = false → checkB p = false := fun h1 h2 => by
    unfold checkB
    have : p.fFuncs.xs.all (fnB p) = false := List.all_eq_false.2 ⟨_, nth_mem h1, by simp [h2]⟩
    simp [this]
  have hF := hp.f i
  have hFb := hF.b
  (repeat' (first | refine s_move ?_ | refine s_assign ?_ | refine s_nil ?_ | (refine k_C ?_; first | refine s_seq ?_ | refine s_region ?_ | refine s_skip ?_ | refine s_block ?_ | refine s_exit ?_ | refine s_ret ?_ | refine s_ift rfl ?_ | (refine s_ifd rfl ?_ ?_ <;> intro hc <;> try (exfalso; omega))) | (refine k_E ?_; first | refine e_seq ?_ | refine e_seq_ret ?_ | refine e_seq_exit ?_ | refine e_bk_exit ?_ | refine e_bk_ret ?_ | refine e_lp_ret ?_ | refine e_lp_exit ?_) | (refine k_load ?_; first | refine s_ldB rfl rfl ?_ | refine s_ldBW rfl rfl ?_ | refine s_ldSA rfl rfl om rfl ?_) | (refine k_bin ?_; first | refine s_lss rfl rfl ?_ | refine s_eql rfl rfl ?_) | (refine k_fld ?_; refine s_fldB rfl ?_) | (refine k_idx ?_; refine s_idxS rfl rfl om ?_) | (refine k_store ?_; refine s_stW _ rfl rfl ?_) | (refine k_call ?_; refine s_len rfl ?_) | (refine k_guard ?_; first | refine s_on rfl rfl ?_ | refine s_off rfl rfl rfl rfl ?_ | (refine s_casesd rfl rfl ?_ ?_ <;> intro hc <;> try (exfalso; omega))) | (refine s_alloc ?_; intro b) | refine s_pick rfl ?_))
  · refine e_done rfl rfl _ (PSub.take [] rfl) ⟨bad (no (by omega) ?_), rfl⟩
    unfold fnB
    have : ¬ 0 < (nth p.fFuncs.xs i).fBlocks.xs.length := by omega
    simp [this]
  refine s_call0 (params_spec (nth p.fFuncs.xs i)) rfl (fun w1 H => H.rdD (by infer_instance)) ?_
  rintro v L' ⟨rfl, rfl⟩
  (repeat' (first | refine s_move ?_ | refine s_assign ?_ | refine s_nil ?_ | (refine k_C ?_; first | refine s_seq ?_ | refine s_region ?_ | refine s_ret ?_ | refine s_ift rfl ?_) | (refine k_E ?_; first | refine e_seq ?_ | refine e_seq_ret ?_ | refine e_bk_ret ?_ | refine e_lp_ret ?_) | (refine k_load ?_; refine s_ldBW rfl rfl ?_) | (refine k_bin ?_; refine s_gtr rfl rfl ?_) | (refine k_call ?_; refine s_len rfl ?_) | (refine k_guard ?_; first | refine s_on rfl rfl ?_ | refine s_off rfl rfl rfl rfl ?_ | (refine s_casesd rfl rfl ?_ ?_ <;> intro hc <;> try (exfalso; omega))) | refine s_pick rfl ?_))
  · refine e_done rfl rfl _ (PSub.take [] rfl) ⟨bad (no (by omega) ?_), rfl⟩
    unfold fnB
    have : ¬ (nth (nth p.fFuncs.xs i).fBlocks.xs 0).fParams.xs.length ≤ 6 := by omega
    simp [this]
  refine s_call0 (once_spec (nth p.fFuncs.xs i) hF) rfl (fun w1 H => H.rdD (by infer_instance)) ?_
  rintro v L' ⟨rfl, rfl⟩
  (repeat' (first | refine s_move ?_ | refine s_assign ?_ | refine s_nil ?_ | (refine k_C ?_; first | refine s_seq ?_ | refine s_region ?_ | refine s_skip ?_ | refine s_block ?_ | refine s_ret ?_ | (refine s_if rfl ?_ ?_ <;> intro hc)) | (refine k_E ?_; first | refine e_seq ?_ | refine e_seq_ret ?_ | refine e_bk_ret ?_ | refine e_lp_ret ?_) | (refine k_load ?_; refine s_ldB rfl rfl ?_) | (refine k_fld ?_; refine s_fldB rfl ?_) | (refine k_call ?_; refine s_len rfl ?_) | (refine k_guard ?_; refine s_on rfl rfl ?_) | refine s_not rfl ?_ | refine s_pick rfl ?_))
  · refine e_done rfl rfl _ (PSub.take [] rfl) ⟨bad (no (by omega) ?_), rfl⟩
    unfold fnB
    have : onceB (nth p.fFuncs.xs i) = false := by simpa using hc
    simp [this]
  · have h0 : onceB (nth p.fFuncs.xs i) = true := by simpa using hc
    obtain ⟨bf, rfl⟩ : ∃ q, q = b := ⟨_, rfl⟩
    refine s_loop (σ := Nat) (fun k => [(1, .pointer (some ⟨b1, 0, none⟩)), (60, .slice p.fFuncs.A p.fFuncs.xs.length p.fFuncs.c), (61, .int .i64 p.fFuncs.xs.length), (62, .int .i64 i), (6, .pointer (some ⟨bf, 0, none⟩)), (82, .slice (nth p.fFuncs.xs i).fBlocks.A (nth p.fFuncs.xs i).fBlocks.xs.length (nth p.fFuncs.xs i).fBlocks.c), (83, .int .i64 (nth p.fFuncs.xs i).fBlocks.xs.length), (84, .int .i64 k)])
      (fun _ => [var 47 bf (nth p.fFuncs.xs i), var 26 b1 p]) (fun k => k ≤ (nth p.fFuncs.xs i).fBlocks.xs.length ∧ ((nth p.fFuncs.xs i).fBlocks.xs.take k).all (blkB p (nth p.fFuncs.xs i)) = true) (fun k => (nth p.fFuncs.xs i).fBlocks.xs.length - k) 0 (by repeat (first | exact trivial | refine ⟨rfl, ?_⟩)) ⟨Nat.zero_le _, rfl⟩ PSub.refl ?_
    rintro g3 k ⟨hk, hallB⟩
    have noB : k < (nth p.fFuncs.xs i).fBlocks.xs.length → blkB p (nth p.fFuncs.xs i) (nth (nth p.fFuncs.xs i).fBlocks.xs k) = false → fnB p (nth p.fFuncs.xs i) = false := fun h1 h2 => by
      unfold fnB
      have : (nth p.fFuncs.xs i).fBlocks.xs.all (blkB p (nth p.fFuncs.xs i)) = false := List.all_eq_false.2 ⟨_, nth_mem h1, by simp [h2]⟩
      simp [this]
    (repeat' (first | refine s_nil ?_ | (refine k_C ?_; first | refine s_seq ?_ | refine s_region ?_ | refine s_skip ?_ | refine s_block ?_ | refine s_exit ?_ | (refine s_ifd rfl ?_ ?_ <;> intro hc <;> try (exfalso; omega))) | (refine k_E ?_; first | refine e_seq ?_ | refine e_seq_exit ?_ | refine e_bk_exit ?_ | refine e_lp_exit ?_) | (refine k_load ?_; first | refine s_ldBW rfl rfl ?_ | refine s_ldBA rfl (by decide) ?_ | refine s_ldSA rfl rfl om rfl ?_) | (refine k_bin ?_; refine s_lss rfl rfl ?_) | (refine k_fld ?_; refine s_fldB rfl ?_) | (refine k_idx ?_; refine s_idxS rfl rfl om ?_) | (refine k_store ?_; refine s_stW _ rfl rfl ?_) | (refine s_alloc ?_; intro b)))
    · refine s_call0 (ends_spec (nth p.fFuncs.xs i) (nth (nth p.fFuncs.xs i).fBlocks.xs k).fEnd (hF.w k)) rfl (fun w1 H => ⟨H.rdD (by infer_instance), H.rdD (by infer_instance)⟩) ?_
      rintro v L' ⟨rfl, rfl⟩
      (repeat' (first | refine s_move ?_ | refine s_assign ?_ | refine s_nil ?_ | (refine k_C ?_; first | refine s_seq ?_ | refine s_region ?_ | refine s_ret ?_ | refine s_ift rfl ?_) | (refine k_E ?_; first | refine e_seq ?_ | refine e_seq_ret ?_ | refine e_bk_ret ?_ | refine e_lp_ret ?_) | (refine k_load ?_; refine s_ldB rfl rfl ?_) | (refine k_fld ?_; refine s_fldB rfl ?_) | (refine k_guard ?_; first | refine s_on rfl rfl ?_ | refine s_off rfl rfl rfl rfl ?_ | (refine s_cases rfl rfl ?_ ?_ <;> intro hc)) | refine s_func (v1 := []) (v2 := [.pointer _]) rfl rfl ?_ | refine s_not rfl ?_ | refine s_pick rfl ?_))
      · refine e_done rfl rfl _ (PSub.take [] rfl) ⟨bad (no (by omega) (noB (by omega) ?_)), rfl⟩
        unfold blkB
        have : endsB (nth p.fFuncs.xs i) (nth (nth p.fFuncs.xs i).fBlocks.xs k).fEnd = false := by simpa using hc
        simp [this]
      have he : endsB (nth p.fFuncs.xs i) (nth (nth p.fFuncs.xs i).fBlocks.xs k).fEnd = true := by simpa using hc
      refine s_call [] (has_Ins_spec _ [.pointer (some ⟨b1, 0, none⟩)] (nth (nth p.fFuncs.xs i).fBlocks.xs k).fIns (fun x => !rightB p x) (fun ok w => RdB ok w b1 p ∧ RdD ok w p) ((Lasts.b b1 p).and (lasts_rdD p)) (fun x _ => check1_spec p x b1)) rfl rfl (fun w1 f1 C => ⟨⟨C.var b1, C.rd hR⟩, C.rd (by infer_instance)⟩) ?_
      rintro v L' ⟨rfl, rfl⟩
      (repeat' (first | refine s_move ?_ | refine s_assign ?_ | refine s_nil ?_ | (refine k_C ?_; first | refine s_seq ?_ | refine s_region ?_ | refine s_skip ?_ | refine s_ret ?_ | (refine s_if rfl ?_ ?_ <;> intro hc)) | (refine k_E ?_; first | refine e_seq ?_ | refine e_seq_ret ?_ | refine e_bk_ret ?_ | refine e_bk ?_ | refine e_lp_ret ?_) | (refine k_bin ?_; refine s_add1 rfl rfl om ?_) | refine s_pick rfl ?_))
      · refine e_done rfl rfl _ (PSub.take [] rfl) ⟨bad (no (by omega) (noB (by omega) ?_)), rfl⟩
        unfold blkB
        have : (nth (nth p.fFuncs.xs i).fBlocks.xs k).fIns.xs.all (rightB p) = false := by rw [List.all_eq_not_any_not, hc]; rfl
        simp [this]
      · refine e_lp (k + 1) (by repeat (first | exact trivial | refine ⟨rfl, ?_⟩)) ⟨by omega, ?_⟩ (by show _ - _ < _ - _; omega) (PSub.take [1, 1] rfl)
        have : (nth (nth p.fFuncs.xs i).fBlocks.xs k).fIns.xs.all (rightB p) = true := by rw [List.all_eq_not_any_not, hc]; rfl
        rw [← take_nth (by omega), List.all_append, hallB]
        simp [blkB, he, this]
    have hk' : k = (nth p.fFuncs.xs i).fBlocks.xs.length := by omega
    subst hk'
    rw [List.take_length] at hallB
    refine s_call0 (known7_spec (nth p.fFuncs.xs i) hF (fun n hn => ?_)) rfl (fun w1 H => H.rdD (by infer_instance)) ?_
    · have := List.all_eq_true.1 hallB _ (nth_mem hn)
      unfold blkB at this
      simp only [Bool.and_eq_true] at this
      exact this.1
    rintro v L' ⟨A, c, ms, rfl, hls, hpl, hix, hmn, rfl⟩
    generalize hkn : known7 (nth p.fFuncs.xs i) = K at hls hpl hix hmn ⊢
    (repeat' (first | refine s_move ?_ | refine s_nil ?_ | (refine k_C ?_; refine s_block ?_) | (refine k_E ?_; refine e_seq ?_) | (refine k_call ?_; refine s_len rfl ?_)))
    refine s_loop (σ := Nat) (fun k => [(1, .pointer (some ⟨b1, 0, none⟩)), (60, .slice p.fFuncs.A p.fFuncs.xs.length p.fFuncs.c), (61, .int .i64 p.fFuncs.xs.length), (62, .int .i64 i), (6, .pointer (some ⟨bf, 0, none⟩)), (101, .slice A (nth p.fFuncs.xs i).fBlocks.xs.length c), (102, .int .i64 (nth p.fFuncs.xs i).fBlocks.xs.length), (103, .int .i64 k)])
      (fun _ => [own 63 A (nth p.fFuncs.xs i).fBlocks.xs.length c (idsOf ms K.pos), bag7 ms, var 47 bf (nth p.fFuncs.xs i), var 26 b1 p]) (fun k => k ≤ (nth p.fFuncs.xs i).fBlocks.xs.length ∧ ∀ n, n < k → usedAt (nth p.fFuncs.xs i) K n = true) (fun k => (nth p.fFuncs.xs i).fBlocks.xs.length - k) 0 (by repeat (first | exact trivial | refine ⟨rfl, ?_⟩)) ⟨Nat.zero_le _, fun n hn => absurd hn (Nat.not_lt_zero n)⟩ PSub.refl ?_
    rintro g4 k ⟨hk, hallU⟩
    have noU : k < (nth p.fFuncs.xs i).fBlocks.xs.length → usedAt (nth p.fFuncs.xs i) K k = false → fnB p (nth p.fFuncs.xs i) = false := fun h1 h2 => by
      unfold fnB
      rw [hkn]
      have : (List.range (nth p.fFuncs.xs i).fBlocks.xs.length).all (usedAt (nth p.fFuncs.xs i) K) = false := List.all_eq_false.2 ⟨k, List.mem_range.2 h1, by simp [h2]⟩
      simp [this]
    have hid : k < (nth p.fFuncs.xs i).fBlocks.xs.length → ∃ h : k < K.pos.length, nth (idsOf ms K.pos) k = ⟨K.pos[k].map fun q => (ms.map (·.id)).getD q 0⟩ := fun h => ⟨by omega, idsOf_nth (ms := ms) (show k < K.pos.length by omega)⟩
    (repeat' (first | refine s_move ?_ | refine s_assign ?_ | refine s_nil ?_ | (refine k_C ?_; first | refine s_seq ?_ | refine s_region ?_ | refine s_skip ?_ | refine s_block ?_ | refine s_exit ?_ | (refine s_ifd rfl ?_ ?_ <;> intro hc <;> try (exfalso; omega))) | (refine k_E ?_; first | refine e_seq ?_ | refine e_seq_exit ?_ | refine e_bk_exit ?_ | refine e_bk ?_ | refine e_lp_exit ?_) | (refine k_load ?_; refine s_ld rfl om rfl ?_) | (refine k_bin ?_; first | refine s_lss rfl rfl ?_ | refine s_add1 rfl rfl om ?_) | (refine k_idx ?_; refine s_idx rfl rfl om ?_)))
    · obtain ⟨hk2, hid⟩ := hid (by omega)
      refine s_mnn rfl rfl ?_
      rw [hid]
      cases hq : K.pos[k] with
      | none =>
        (repeat' (first | refine s_move ?_ | refine s_nil ?_ | (refine k_C ?_; first | refine s_region ?_ | refine s_skip ?_ | refine s_iff rfl ?_) | (refine k_E ?_; first | refine e_seq ?_ | refine e_bk ?_) | (refine k_bin ?_; refine s_add1 rfl rfl om ?_) | (refine k_guard ?_; refine s_off rfl rfl rfl rfl ?_) | refine s_pick rfl ?_))
        refine e_lp (k + 1) (by repeat (first | exact trivial | refine ⟨rfl, ?_⟩)) ⟨by omega, fun n hn => ?_⟩ (by show _ - _ < _ - _; omega) PSub.refl
        rcases Nat.lt_succ_iff_lt_or_eq.1 hn with h | rfl
        · exact hallU n h
        · unfold usedAt
          rw [List.getElem?_eq_getElem hk2, hq]; rfl
      | some q =>
        have hql := hix q (by rw [← hq]; exact List.getElem_mem hk2)
        have hqn := hmn q (by rw [← hq]; exact List.getElem_mem hk2)
        have hqn : ms[q].n ≤ 10000000 := by simpa [hql] using hqn
        have hlq : K.ls.getD q [] = ms[q].l := by rw [← hls]; simp [hql]
        have hu : usedAt (nth p.fFuncs.xs i) K k = usedB ms[q].l (nth (nth p.fFuncs.xs i).fBlocks.xs k) := by
          unfold usedAt
          rw [List.getElem?_eq_getElem hk2, hq, ← hlq]; rfl
        have hp1 := hF.p k
        have hp2 := hF.i k
        have hp3 := hF.w k
        (repeat' (first | refine s_move ?_ | (refine k_load ?_; first | refine s_ldB rfl rfl ?_ | refine s_ldSA rfl rfl om rfl ?_) | (refine k_fld ?_; refine s_fldB rfl ?_) | (refine k_idx ?_; refine s_idxS rfl rfl om ?_) | (refine k_guard ?_; refine s_on rfl rfl ?_)))
        refine so_sub PSub.swap (so_sub (PSub.bagOut hql) ?_)
        refine s_call [] (used_spec (some ms[q].id) ms[q].n ms[q].l (nth (nth p.fFuncs.xs i).fBlocks.xs k) (by omega) (by omega) (by omega) (by omega)) (by
          refine List.cons_eq_cons.2 ⟨?_, rfl⟩
          show Value.map (some ((ms.map (·.id)).getD q 0)) = _
          simp [hql]) rfl (fun w1 f1 C => ⟨C.map ms[q].id, C.rd (by infer_instance)⟩) ?_
        rintro v L' ⟨rfl, rfl⟩
        refine so_sub (PSub.bagIn ms[q] hql) ?_
        rw [List.set_getElem_self]
        refine so_sub PSub.swap ?_
        (repeat' (first | refine s_move ?_ | refine s_assign ?_ | refine s_nil ?_ | (refine k_C ?_; first | refine s_seq ?_ | refine s_region ?_ | refine s_skip ?_ | refine s_ret ?_ | (refine s_if rfl ?_ ?_ <;> intro hc)) | (refine k_E ?_; first | refine e_seq ?_ | refine e_seq_ret ?_ | refine e_bk_ret ?_ | refine e_bk ?_ | refine e_lp_ret ?_) | (refine k_bin ?_; refine s_add1 rfl rfl om ?_) | (refine k_guard ?_; refine s_on rfl rfl ?_) | refine s_not rfl ?_ | refine s_pick rfl ?_))
        · refine e_done rfl rfl _ (PSub.take [] rfl) ⟨bad (no (by omega) (noU (by omega) ?_)), rfl⟩
          rw [hu]; simpa using hc
        · refine e_lp (k + 1) (by repeat (first | exact trivial | refine ⟨rfl, ?_⟩)) ⟨by omega, fun n hn => ?_⟩ (by show _ - _ < _ - _; omega) PSub.refl
          rcases Nat.lt_succ_iff_lt_or_eq.1 hn with h | rfl
          · exact hallU n h
          · rw [hu]; simpa using hc
    · have hk' : k = (nth p.fFuncs.xs i).fBlocks.xs.length := by omega
      subst hk'
      refine e_lp (i + 1) (by repeat (first | exact trivial | refine ⟨rfl, ?_⟩)) ⟨by omega, ?_⟩ (by show _ - _ < _ - _; omega) (PSub.take [3] rfl)
      rw [← take_nth (by omega), List.all_append, hallF]
      have h1 : 0 < (nth p.fFuncs.xs i).fBlocks.xs.length := by omega
      have h2 : (nth (nth p.fFuncs.xs i).fBlocks.xs 0).fParams.xs.length ≤ 6 := by omega
      have h3 : (List.range (nth p.fFuncs.xs i).fBlocks.xs.length).all (usedAt (nth p.fFuncs.xs i) K) = true := List.all_eq_true.2 fun n hn => hallU n (List.mem_range.1 hn)
      simp [fnB, h1, h2, h0, hallB, hkn, h3]
  · have hi' : i = p.fFuncs.xs.length := by omega
    subst hi'
    rw [List.take_length] at hallF
    refine e_done rfl rfl _ (PSub.take [] rfl) ⟨?_, rfl⟩
    have : checkB p = true := by unfold checkB; simp [hall, hmain, hallF]
    rw [this]; rfl
end Go.Proofs.Ytboicgdblbfbeaa
