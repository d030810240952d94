/- Layer 8: a call is left, walked. -/
import Derived.Test.YtoknjpmlloikhaaR3
namespace Go.Proofs.Ytoknjpmlloikhaa
set_option linter.unusedVariables false
set_option linter.unusedSimpArgs false
open Go Go.RowKit

theorem PSub.tlD {w0 : World} {f0 : FP} {X : HP} {L : List HP} : PSub w0 f0 (X :: L) L := fun w H => H.drop 0
section
variable {e e2 : TypeId} {α : Type} [I : Enc α] {w0 : World} {f0 : FP} {L : List HP} {A : Option Addr} {l c : Nat} {xs : List α} {put : HP → List HP}
/-- The first few of a row are kept. -/
theorem PSub.cutOwn [h : Pc L A (own (I := I) e2 A l c xs) put] {j : Nat} (hj : j ≤ l) : PSub w0 f0 L (put (own (I := I) e2 A j c (xs.take j))) := by
  intro w H
  obtain ⟨i, g, hi, hA, hB⟩ := h.st H
  have hl := own.len hA
  have h3 := row.cutH (show (row A l c e2 I.sz (xs.flatMap I.enc)).sat w g from hA) j (by omega)
  have e3 : (xs.flatMap I.enc).take (j * I.sz) = (xs.take j).flatMap I.enc := by
    conv => lhs; rw [← List.take_append_drop j xs, List.flatMap_append]
    rw [List.take_left' (by rw [flat_len (fun a _ => I.len a), List.length_take]; congr 1; omega)]
  rw [e3] at h3
  exact hB w (own (I := I) e2 A j c (xs.take j)) g (Step.refl _ _) h3 (fun b hb => .inl hb)
end
theorem frsOf_take {fs : List Frm} {mi : Nat → Nat} {k : Nat} : (frsOf fs mi).take k = frsOf (fs.take k) mi := by
  unfold frsOf
  apply List.ext_getElem
  · simp
  · intro j h1 h2
    simp only [List.getElem_take, List.getElem_mapIdx]
theorem frmN_take {fs : List Frm} {k j : Nat} (h : j < k) : frmN (fs.take k) j = frmN fs j := by
  unfold frmN
  rw [List.getD_eq_getElem?_getD, List.getD_eq_getElem?_getD, List.getElem?_take, if_pos h]
theorem bagG_drop {e kt : TypeId} {α : Type} {E : EK Try.prog e α} {w0 : World} {f0 : FP} {L : List HP} {U : Nat → Nat} {k : Nat} {mi : Nat → Nat} {F : Nat → Int → Option α} : PSub w0 f0 (bagG E kt U (k + 1) mi F :: L) (bagG E kt U k mi F :: L) := by
  refine (PSub.bagGout (b := k) (Nat.lt_succ_self k)).trans ((PSub.tlD).trans (PSub.eq ?_))
  unfold bagGX bagG
  rw [List.range_succ, List.map_append, List.eraseIdx_append_of_length_le (by simp)]
  simp
theorem frsOf_nth {fs : List Frm} {mi : Nat → Nat} {j : Nat} (h : j < fs.length) : nth (frsOf fs mi) j = ⟨(frmN fs j).fn, (frmN fs j).block, (frmN fs j).at_, ⟨some (mi j)⟩, (frmN fs j).dst⟩ := by
  have h1 : j < (frsOf fs mi).length := by unfold frsOf; rw [List.length_mapIdx]; exact h
  have e : (frsOf fs mi)[j]? = some ⟨fs[j].fn, fs[j].block, fs[j].at_, ⟨some (mi j)⟩, fs[j].dst⟩ := by
    unfold frsOf
    rw [List.getElem?_mapIdx, List.getElem?_eq_getElem h]
    rfl
  have e2 : frmN fs j = fs[j] := by unfold frmN; simp [List.getElem?_eq_getElem h]
  rw [e2]
  have e3 := nth_some h1
  rw [e] at e3
  exact (Option.some.inj e3).symm
theorem frsOf_setV {fs : List Frm} {mi : Nat → Nat} {k : Nat} {w : Int → Option Int} : frsOf (fs.set k { frmN fs k with vals := w }) mi = frsOf fs mi := by
  unfold frsOf
  apply List.ext_getElem?
  intro j
  rw [List.getElem?_mapIdx, List.getElem?_mapIdx]
  by_cases e : k = j
  · subst e
    by_cases h : k < fs.length
    · rw [List.getElem?_set_self h, List.getElem?_eq_getElem h]
      have e2 : frmN fs k = fs[k] := by unfold frmN; simp [List.getElem?_eq_getElem h]
      rw [e2]; rfl
    · rw [List.getElem?_eq_none (by simpa using h), List.getElem?_eq_none (by omega)]
  · rw [List.getElem?_set_ne e]
theorem frmN_set {fs : List Frm} {k j : Nat} {f : Frm} (h : k < fs.length) : frmN (fs.set k f) j = if j = k then f else frmN fs j := by
  unfold frmN
  rw [List.getD_eq_getElem?_getD, List.getD_eq_getElem?_getD]
  split
  · rename_i e; subst e; rw [List.getElem?_set_self h]; rfl
  · rename_i e; rw [List.getElem?_set_ne (Ne.symm e)]
set_option maxHeartbeats 4000000 in
theorem leave_spec (bm : Nat) (p : SsaProg) (Af : Option Addr) (cf : Nat) (fs : List Frm) (mi : Nat → Nat) (r : SimResult) (fin : Bool) (h0 : 0 < fs.length) (hdw : wfi (frmN fs (fs.length - 1)).dst) (hkey : 1 < fs.length → (frmN fs (fs.length - 1)).dst ∈ keysOf p (frmN fs (fs.length - 2)).fn) (hVk : ∀ u, (frmN fs (fs.length - 2)).vals u ≠ none → u ∈ keysOf p (frmN fs (fs.length - 2)).fn) (hK : ∀ j, UF p fs j ≤ 1000000) (hfl : fs.length ≤ 1000000) (v : Int) (hv : wfi v) :
    Spec Try.prog 41 [.pointer (some ⟨bm, 0, none⟩), .int .i64 v] [var 70 bm (⟨p, ⟨Af, cf, frsOf fs mi⟩, r, fin⟩ : SimMachine), own 90 Af (frsOf fs mi).length cf (frsOf fs mi), bagG EW 3 (UF p fs) fs.length mi (fun j => (frmN fs j).vals)] (fun _ _ => True)
      fun _ L' => (fs.length = 1 ∧ L' = [var 70 bm (⟨p, ⟨Af, cf, frsOf [] mi⟩, ⟨v, r.fTrap, r.fLeaks, r.fSteps, r.fDeep, r.fMem⟩, true⟩ : SimMachine), own 90 Af 0 cf (frsOf [] mi), bagG EW 3 (UF p []) 0 mi (fun j => (frmN [] j).vals)]) ∨ (1 < fs.length ∧ L' = [var 70 bm (⟨p, ⟨Af, cf, frsOf ((fs.take (fs.length - 1)).set (fs.length - 2) { frmN fs (fs.length - 2) with vals := (putF (frmN fs (fs.length - 2)).vals (frmN fs (fs.length - 1)).dst v) }) mi⟩, r, fin⟩ : SimMachine), own 90 Af (frsOf ((fs.take (fs.length - 1)).set (fs.length - 2) { frmN fs (fs.length - 2) with vals := (putF (frmN fs (fs.length - 2)).vals (frmN fs (fs.length - 1)).dst v) }) mi).length cf (frsOf ((fs.take (fs.length - 1)).set (fs.length - 2) { frmN fs (fs.length - 2) with vals := (putF (frmN fs (fs.length - 2)).vals (frmN fs (fs.length - 1)).dst v) }) mi), bagG EW 3 (UF p ((fs.take (fs.length - 1)).set (fs.length - 2) { frmN fs (fs.length - 2) with vals := (putF (frmN fs (fs.length - 2)).vals (frmN fs (fs.length - 1)).dst v) })) (fs.length - 1) mi (fun j => (frmN ((fs.take (fs.length - 1)).set (fs.length - 2) { frmN fs (fs.length - 2) with vals := (putF (frmN fs (fs.length - 2)).vals (frmN fs (fs.length - 1)).dst v) }) j).vals)]) := by
  refine spec_of Try.func41 rfl rfl fun w0 f0 hR => ?_
  have hfrl : (frsOf fs mi).length = fs.length := by unfold frsOf; rw [List.length_mapIdx]
  have hb1 : 0 < (frsOf fs mi).length := by omega
  (repeat' (first | refine s_move ?_ | refine s_assign ?_ | refine s_nil ?_ | (refine k_C ?_; first | refine s_seq ?_ | refine s_stillP foI rfl (by kernel_rfl) ?_) | (refine k_E ?_; refine e_seq ?_) | (refine k_load ?_; first | refine s_ldB rfl rfl ?_ | refine s_ldF rfl om rfl ?_) | (refine k_bin ?_; refine s_sub64 rfl rfl om ?_) | (refine k_fld ?_; first | refine s_fld rfl ?_ | refine s_fldB rfl ?_) | (refine k_idx ?_; refine s_idxI rfl rfl om om ?_) | (refine k_call ?_; refine s_len rfl ?_) | refine s_nilck rfl ?_))
  refine s_tail (F := ?F1) 14 [0, 1, 2, 3, 4, 5, 6, 7, 8, 9, 10, 11, 12, 13] foI (by kernel_rfl) ?hr1 ?hn1
  case hr1 =>
    change sO _ _ _ _ _ _ (_ :: _ :: _ :: _ :: _ :: _ :: _ :: _ :: _ :: _ :: _ :: _ :: _ :: _ :: []) _ _ _
    (repeat' (first | refine s_move ?_ | refine s_nil ?_ | (refine k_load ?_; refine s_ldB rfl rfl ?_) | (refine k_bin ?_; refine s_sub64 rfl rfl om ?_) | (refine k_fld ?_; refine s_fldB rfl ?_) | (refine k_call ?_; refine s_len rfl ?_) | refine s_cutH rfl rfl om om ?_ | refine s_nilck rfl ?_))
    exact e_F
  case hn1 =>
    change sO _ _ _ _ _ _ (_ :: []) _ _ _
    have hcut : ∀ {w0 : World} {f0 : FP}, PSub w0 f0 [var 70 bm (⟨p, ⟨Af, cf, frsOf fs mi⟩, r, fin⟩ : SimMachine), own 90 Af (frsOf fs mi).length cf (frsOf fs mi), bagG EW 3 (UF p fs) fs.length mi (fun j => (frmN fs j).vals)] [var 70 bm (⟨p, ⟨Af, cf, frsOf fs mi⟩, r, fin⟩ : SimMachine), own 90 Af (fs.length - 1) cf ((frsOf fs mi).take (fs.length - 1)), bagG EW 3 (UF p fs) fs.length mi (fun j => (frmN fs j).vals)] := by exact PSub.cutOwn (L := [var 70 bm (⟨p, ⟨Af, cf, frsOf fs mi⟩, r, fin⟩ : SimMachine), own 90 Af (frsOf fs mi).length cf (frsOf fs mi), bagG EW 3 (UF p fs) fs.length mi (fun j => (frmN fs j).vals)]) (A := Af) (l := (frsOf fs mi).length) (c := cf) (xs := frsOf fs mi) (e2 := 90) (j := fs.length - 1) (by omega)
    have htl : ((frsOf fs mi).take (fs.length - 1)).length = fs.length - 1 := by rw [List.length_take]; omega
    refine so_sub (L' := [var 70 bm (⟨p, ⟨Af, cf, frsOf fs mi⟩, r, fin⟩ : SimMachine), own 90 Af ((frsOf fs mi).take (fs.length - 1)).length cf ((frsOf fs mi).take (fs.length - 1)), bagG EW 3 (UF p fs) fs.length mi (fun j => (frmN fs j).vals)]) (hcut.trans (PSub.eq (by rw [htl]))) ?_
    have hn1 : (((frsOf fs mi).length : Int) - 1).toNat = ((frsOf fs mi).take (fs.length - 1)).length := by omega
    refine s_stB (⟨p, ⟨Af, cf, (frsOf fs mi).take (fs.length - 1)⟩, r, fin⟩ : SimMachine) rfl rfl ?hst (by decide) ?_
    case hst =>
      show (Enc.enc (⟨p, ⟨Af, cf, frsOf fs mi⟩, r, fin⟩ : SimMachine)).set _ (Value.slice Af (((frsOf fs mi).length : Int) - 1).toNat cf) = _
      rw [hn1]; rfl
    have htk : fs.length = 1 → (frsOf fs mi).take (fs.length - 1) = frsOf [] mi := fun h => by rw [frsOf_take, h]; rfl
    (repeat' (first | refine s_move ?_ | refine s_nil ?_ | (refine k_C ?_; first | refine s_seq ?_ | refine s_region ?_ | refine s_skip ?_ | (refine s_ifd rfl ?_ ?_ <;> intro hc <;> try (exfalso; omega))) | (refine k_E ?_; refine e_seq ?_) | (refine k_load ?_; refine s_ldB rfl rfl ?_) | (refine k_bin ?_; refine s_eql rfl rfl ?_) | (refine k_fld ?_; refine s_fldB rfl ?_) | (refine k_call ?_; refine s_len rfl ?_) | refine s_nilck rfl ?_))
    · have hone : fs.length = 1 := by
        have hc2 : ((((frsOf fs mi).take (fs.length - 1)).length : Nat) : Int) = 0 := hc
        omega
      refine s_stB (⟨p, ⟨Af, cf, (frsOf fs mi).take (fs.length - 1)⟩, ⟨v, r.fTrap, r.fLeaks, r.fSteps, r.fDeep, r.fMem⟩, fin⟩ : SimMachine) rfl rfl (by rfl) (by decide) ?_
      (repeat' (first | (refine k_fld ?_; refine s_fldB rfl ?_) | refine s_nilck rfl ?_))
      refine s_stB (⟨p, ⟨Af, cf, (frsOf fs mi).take (fs.length - 1)⟩, ⟨v, r.fTrap, r.fLeaks, r.fSteps, r.fDeep, r.fMem⟩, true⟩ : SimMachine) rfl rfl (by rfl) (by decide) ?_
      (repeat' (first | refine s_nil ?_ | (refine k_C ?_; refine s_ret ?_) | (refine k_E ?_; first | refine e_seq ?_ | refine e_seq_ret ?_)))
      rw [htk hone]
      have hb0 : bagG EW 3 (UF p fs) fs.length mi (fun j => (frmN fs j).vals) = bagG EW 3 (UF p fs) (0 + 1) mi (fun j => (frmN fs j).vals) := by rw [hone]
      exact e_done0 rfl _ ((PSub.take (L' := [bagG EW 3 (UF p fs) fs.length mi (fun j => (frmN fs j).vals), var 70 bm (⟨p, ⟨Af, cf, frsOf [] mi⟩, ⟨v, r.fTrap, r.fLeaks, r.fSteps, r.fDeep, r.fMem⟩, true⟩ : SimMachine), own 90 Af 0 cf (frsOf [] mi)]) [2, 0, 0] rfl).trans ((PSub.eq (congrArg (· :: _) hb0)).trans ((bagG_drop (k := 0)).trans ((PSub.take [1, 1, 0] rfl).trans (PSub.eq (by
        rw [show bagG EW 3 (UF p fs) 0 mi (fun j => (frmN fs j).vals) = bagG EW 3 (UF p []) 0 mi (fun j => (frmN [] j).vals) from bagG_congr fun j hj => absurd hj (Nat.not_lt_zero j)]
        rfl)))))) (.inl ⟨hone, rfl⟩)
    · have h2 : 1 < fs.length := by
        have hc2 : ¬ ((((frsOf fs mi).take (fs.length - 1)).length : Nat) : Int) = 0 := hc
        omega
      refine s_tail (F := ?F4) 15 [0, 1, 2, 3, 4, 5, 6, 7, 8, 9, 10, 11, 12, 13, 14] foI (by kernel_rfl) ?hr4 ?hn4
      case hr4 =>
        change sO _ _ _ _ _ _ (_ :: _ :: _ :: _ :: _ :: _ :: _ :: _ :: _ :: _ :: _ :: _ :: _ :: _ :: _ :: []) _ _ _
        (repeat' (first | refine s_move ?_ | refine s_nil ?_ | (refine k_load ?_; first | refine s_ldB rfl rfl ?_ | refine s_ldF rfl om rfl ?_) | (refine k_bin ?_; refine s_sub64 rfl rfl om ?_) | (refine k_fld ?_; first | refine s_fld rfl ?_ | refine s_fldB rfl ?_) | (refine k_idx ?_; refine s_idxI rfl rfl om om ?_) | (refine k_call ?_; refine s_len rfl ?_) | refine s_nilck rfl ?_))
        exact e_F
      case hn4 =>
        change sO _ _ _ _ _ _ (_ :: []) _ _ _
        have hi1 : ((((frsOf fs mi).take (fs.length - 1)).length : Int) - 1).toNat = fs.length - 2 := by omega
        have hi2 : (((frsOf fs mi).length : Int) - 1).toNat = fs.length - 1 := by omega
        have hb : (nth ((frsOf fs mi).take (fs.length - 1)) ((((frsOf fs mi).take (fs.length - 1)).length : Int) - 1).toNat).fVals.b = some (mi (fs.length - 2)) := by
          rw [hi1, frsOf_take, frsOf_nth (by rw [List.length_take]; omega)]
        have hdst : (nth (frsOf fs mi) (((frsOf fs mi).length : Int) - 1).toNat).fDst = (frmN fs (fs.length - 1)).dst := by
          rw [hi2, frsOf_nth (by omega)]
        have hKj := hK (fs.length - 2)
        have hb1 : bagG EW 3 (UF p fs) fs.length mi (fun j => (frmN fs j).vals) = bagG EW 3 (UF p fs) (fs.length - 1 + 1) mi (fun j => (frmN fs j).vals) := by rw [show fs.length - 1 + 1 = fs.length by omega]
        refine so_sub (L' := [mp EW 3 (mi (fs.length - 2)) (UF p fs (fs.length - 2)) (frmN fs (fs.length - 2)).vals, bagGX EW 3 (UF p fs) (fs.length - 1) mi (fun j => (frmN fs j).vals) (fs.length - 2), var 70 bm (⟨p, ⟨Af, cf, (frsOf fs mi).take (fs.length - 1)⟩, r, fin⟩ : SimMachine), own 90 Af ((frsOf fs mi).take (fs.length - 1)).length cf ((frsOf fs mi).take (fs.length - 1))]) ((PSub.take (L' := [bagG EW 3 (UF p fs) fs.length mi (fun j => (frmN fs j).vals), var 70 bm (⟨p, ⟨Af, cf, (frsOf fs mi).take (fs.length - 1)⟩, r, fin⟩ : SimMachine), own 90 Af ((frsOf fs mi).take (fs.length - 1)).length cf ((frsOf fs mi).take (fs.length - 1))]) [2, 0, 0] rfl).trans ((PSub.eq (congrArg (· :: _) hb1)).trans (bagG_drop.trans (PSub.bagGout (by omega))))) ?_
        refine s_put (yv := v) (congrArg Value.map hb) (congrArg (Value.int .i64) hdst) rfl hdw (wfi_iff.1 hv) (by omega) ?_
        (repeat' (first | refine s_nil ?_))
        have htl2 : (fs.take (fs.length - 1)).length = fs.length - 1 := by rw [List.length_take]; omega
        have hf2 : frmN (fs.take (fs.length - 1)) (fs.length - 2) = frmN fs (fs.length - 2) := frmN_take (by omega)
        have hfs : frsOf ((fs.take (fs.length - 1)).set (fs.length - 2) { frmN fs (fs.length - 2) with vals := (putF (frmN fs (fs.length - 2)).vals (frmN fs (fs.length - 1)).dst v) }) mi = (frsOf fs mi).take (fs.length - 1) := by
          rw [frsOf_take, ← hf2]
          exact frsOf_setV
        have hbg : bagG EW 3 (UF p fs) (fs.length - 1) mi (updB (fun j => (frmN fs j).vals) (fs.length - 2) (putF (frmN fs (fs.length - 2)).vals (frmN fs (fs.length - 1)).dst v)) = bagG EW 3 (UF p ((fs.take (fs.length - 1)).set (fs.length - 2) { frmN fs (fs.length - 2) with vals := (putF (frmN fs (fs.length - 2)).vals (frmN fs (fs.length - 1)).dst v) })) (fs.length - 1) mi (fun j => (frmN ((fs.take (fs.length - 1)).set (fs.length - 2) { frmN fs (fs.length - 2) with vals := (putF (frmN fs (fs.length - 2)).vals (frmN fs (fs.length - 1)).dst v) }) j).vals) := bagG_congr fun j hj => by
          unfold UF
          rw [frmN_set (by omega)]
          by_cases e : j = fs.length - 2
          · subst e
            rw [if_pos rfl, updB_same]
            exact ⟨rfl, rfl, rfl⟩
          · rw [if_neg e, updB_ne e, frmN_take hj]
            exact ⟨rfl, rfl, rfl⟩
        refine e_done0N rfl _ ?_ (.inr ⟨h2, rfl⟩)
        rw [hfs, ← hbg]
        refine (PSub.mpCut (keysOf p (frmN fs (fs.length - 2)).fn) U_3 (fun u hu => ?_)).trans ((PSub.bagGin (E := EW) (kt := 3) (U := UF p fs) (mi := mi) (F := fun j => (frmN fs j).vals) (b := fs.length - 2) (by omega)).trans (PSub.take [1, 1, 0] rfl))
        unfold upd at hu
        split at hu
        · rename_i e; rw [e]; exact hkey h2
        · exact hVk u hu
end Go.Proofs.Ytoknjpmlloikhaa
