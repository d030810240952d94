/- Layer 12: what an instruction says, walked. -/
import Derived.Test.YtomhieglgfjloaaQ4
import Derived.Test.YtomhieglgfjloaaA18
namespace Go.Proofs.Ytomhieglgfjloaa
set_option linter.unusedVariables false
set_option linter.unusedSimpArgs false
open Go Go.RowKit

structure InsOk (k : TC) (na : Nat) (f : Nat) (i : SsaIns) : Prop where
  al : i.fArgs.xs.length ≤ 1000
  dst : i.fOp = 1 ∨ i.fOp = 2 ∨ i.fOp = 3 ∨ i.fOp = 5 ∨ i.fOp = 7 → i.fDst ∈ k.K f
  arr : i.fOp = 3 ∨ i.fOp = 4 ∨ i.fOp = 5 ∨ i.fOp = 6 → 0 ≤ i.fArr ∧ i.fArr < na
  two : i.fOp = 6 → 2 ≤ i.fArgs.xs.length
  fn : i.fOp = 7 → 0 ≤ i.fFn ∧ i.fFn < k.n ∧ 0 < (nth k.p.fFuncs.xs i.fFn.toNat).fBlocks.xs.length ∧ i.fArgs.xs.length = (parsF k.p i.fFn.toNat).length ∧ ∀ v ∈ parsF k.p i.fFn.toNat, v ∈ k.K i.fFn.toNat
theorem solA_set {k : TC} {xs ys : List Int} {t : Bool} {i : Nat} {x : Int} : var 78 k.b (⟨k.p, ⟨k.xv, ⟨k.Aa, k.ca, xs⟩, ⟨k.Ar, k.cr, ys⟩, k.xc⟩, k.xw, t⟩ : TaintSolver) = var 78 k.b (⟨k.p, ⟨k.xv, ⟨k.Aa, k.ca, xs.set i x⟩, ⟨k.Ar, k.cr, ys⟩, k.xc⟩, k.xw, t⟩ : TaintSolver) := var_congr (by simp only [Enc.enc, List.length_set])
theorem solR_set {k : TC} {xs ys : List Int} {t : Bool} {i : Nat} {x : Int} : var 78 k.b (⟨k.p, ⟨k.xv, ⟨k.Aa, k.ca, xs⟩, ⟨k.Ar, k.cr, ys⟩, k.xc⟩, k.xw, t⟩ : TaintSolver) = var 78 k.b (⟨k.p, ⟨k.xv, ⟨k.Aa, k.ca, xs⟩, ⟨k.Ar, k.cr, ys.set i x⟩, k.xc⟩, k.xw, t⟩ : TaintSolver) := var_congr (by simp only [Enc.enc, List.length_set])
set_option maxHeartbeats 8000000 in
theorem ins_spec (k : TC) (hk : k.Ok) (s : LSt) (hs : s.Ok k) (f : Nat) (hf : f < k.n) (i : SsaIns) (hi : InsOk k s.A.length f i) (hfn : k.p.fFuncs.xs.length = k.n) (hrl : s.Rt.length = k.n) :
    Spec Try.prog 35 [.pointer (some ⟨k.b, 0, none⟩), .int .i64 (f : Nat), .agg (Enc.enc i).toArray] (solL k s) (fun ok w => RdD ok w k.p ∧ RdD ok w i) fun r L' => ∃ s', Went k (rqI k.p k.cut k.xw.xs f i) s s' ∧ L' = solL k s' := by
  refine spec_of Try.func35 rfl rfl fun w0 f0 hR => ?_
  obtain ⟨hRp, hRi⟩ := hR
  have hdw : wfi i.fDst := RdD.int (ok := okOf w0 f0) (w := w0) (by infer_instance)
  have hof := ofE_in hs hf i.fArgs.xs
  have hal := hi.al
  have hnn := hk.n
  have hvl := hk.vl
  refine s_sub (L' := [var 78 k.b (⟨k.p, ⟨k.xv, ⟨k.Aa, k.ca, s.A⟩, ⟨k.Ar, k.cr, s.Rt⟩, k.xc⟩, k.xw, s.t⟩ : TaintSolver), own 56 k.xv.A k.xv.xs.length k.xv.c k.xv.xs, own 42 k.Aa s.A.length k.ca s.A, own 42 k.Ar s.Rt.length k.cr s.Rt, own 29 k.xc.A k.xc.xs.length k.xc.c k.xc.xs, own 4 k.xw.A k.xw.xs.length k.xw.c k.xw.xs, bagG EL 3 (fun j => (k.K j).length) k.n k.mv s.V, bagG EB 3 k.NC k.n k.mc k.C]) PSub.refl ?_
  (repeat' (first | refine s_move ?_ | refine s_nil ?_ | (refine k_C ?_; first | refine s_seq ?_ | refine s_region ?_) | (refine k_E ?_; refine e_seq ?_) | (refine k_load ?_; refine s_ldB rfl rfl ?_) | (refine k_fld ?_; refine s_fldB rfl ?_) | (refine s_box _ rfl ?_; intro b)))
  obtain ⟨b5, rfl⟩ : ∃ q, q = b := ⟨_, rfl⟩
  refine s_call (L2 := [var 60 b5 i]) [1, 1, 1, 1, 1, 1, 1, 1] (of12_spec k hk s hs f hf i.fArgs hi.al) rfl rfl (fun w1 f1 C => C.rd (by infer_instance)) ?_
  rintro r L' ⟨rfl, rfl⟩
  generalize hfr : ofE f i.fArgs.xs (labL s) = fr at hof
  refine so_sub (L' := [var 78 k.b (⟨k.p, ⟨k.xv, ⟨k.Aa, k.ca, s.A⟩, ⟨k.Ar, k.cr, s.Rt⟩, k.xc⟩, k.xw, s.t⟩ : TaintSolver), own 56 k.xv.A k.xv.xs.length k.xv.c k.xv.xs, own 42 k.Aa s.A.length k.ca s.A, own 42 k.Ar s.Rt.length k.cr s.Rt, own 29 k.xc.A k.xc.xs.length k.xc.c k.xc.xs, own 4 k.xw.A k.xw.xs.length k.xw.c k.xw.xs, bagG EL 3 (fun j => (k.K j).length) k.n k.mv s.V, bagG EB 3 k.NC k.n k.mc k.C, var 60 b5 i]) PSub.refl ?_
  (repeat' (first | refine s_move ?_ | refine s_assign ?_ | refine s_nil ?_ | (refine k_C ?_; first | refine s_seq ?_ | refine s_region ?_ | refine s_skip ?_ | refine s_block ?_ | (refine s_ifd rfl ?_ ?_ <;> intro hc <;> try (exfalso; omega))) | (refine k_E ?_; first | refine e_seq ?_ | refine e_bk ?_) | (refine k_load ?_; refine s_ldB rfl rfl ?_) | (refine k_bin ?_; refine s_eql rfl rfl ?_) | (refine k_fld ?_; refine s_fldB rfl ?_)))
  · have ho : i.fOp = 1 := by assumption
    have hd := hi.dst (.inl ho)
    refine s_call (L2 := [var 60 b5 i]) [0, 0, 0, 0, 0, 0, 0, 0] (val_spec k hk s hs f hf i.fDst 0 hd hdw ⟨Int.le_refl _, by decide⟩) rfl rfl (fun _ _ _ => trivial) ?_
    rintro r L' rfl
    (repeat' (first | refine s_nil ?_ | (refine k_E ?_; refine e_bk ?_)))
    refine e_done0N rfl _ (PSub.take [0, 0, 0, 0, 0, 0, 0, 0] rfl) ⟨_, ?_, rfl⟩
    unfold rqI
    rw [if_pos ho]
    exact Went.val hs hd ⟨Int.le_refl _, by decide⟩ rfl
  · have ho : i.fOp = 2 := by assumption
    have hd := hi.dst (.inr (.inl ho))
    refine s_call (L2 := [var 60 b5 i]) [0, 0, 0, 0, 0, 0, 0, 0] (val_spec k hk s hs f hf i.fDst fr hd hdw hof) rfl rfl (fun _ _ _ => trivial) ?_
    rintro r L' rfl
    (repeat' (first | refine s_nil ?_ | (refine k_E ?_; refine e_bk ?_)))
    refine e_done0N rfl _ (PSub.take [0, 0, 0, 0, 0, 0, 0, 0] rfl) ⟨_, ?_, rfl⟩
    unfold rqI
    rw [if_neg (by omega), if_pos ho]
    exact Went.val hs hd hof hfr
  · have ho : i.fOp = 3 := by assumption
    have hd := hi.dst (by omega)
    have ha := hi.arr (by omega)
    have hla := lab_nth hs.a i.fArr.toNat
    have hmy := mayL_in (W := k.xw.xs) (i := i)
    have hmx : 0 ≤ max (max (nth s.A i.fArr.toNat) fr) (mayL k.xw.xs i) ∧ max (max (nth s.A i.fArr.toNat) fr) (mayL k.xw.xs i) ≤ 2 := by omega
    refine s_draw _ 21 foI (by kernel_rfl) PSub.refl fun hD => ?_
    refine d_rd (fuel := 3) #[true, true, true, true, true, true, true, true, true, true, true, true, true, true, true, true, true, true, true, false, false, false] [0, 1, 2, 3, 4, 5, 6, 7, 8, 9, 10, 11, 12, 13, 14, 15, 16, 17, 18] ?Fga hD (by kernel_rfl) ?hrga ?hnga
    case hrga =>
      change sO _ _ _ _ _ _ (_ :: _ :: _ :: _ :: _ :: _ :: _ :: _ :: _ :: _ :: _ :: _ :: _ :: _ :: _ :: _ :: _ :: _ :: _ :: []) _ _ _
      (repeat' (first | refine s_move ?_ | refine s_nil ?_ | (refine k_load ?_; first | refine s_ldB rfl rfl ?_ | refine s_ldBW rfl rfl ?_ | refine s_ld rfl om rfl ?_) | (refine k_fld ?_; refine s_fldB rfl ?_) | (refine k_idx ?_; refine s_idxI rfl rfl om om ?_) | refine s_nilck rfl ?_))
      exact e_F
    refine d_all (fuel := 2) [19] (by kernel_rfl) ⟨?_, trivial⟩
    change sO _ _ _ _ _ _ (_ :: []) _ _ _
    skip
    refine s_call0 (may_spec k.xw i) rfl (fun w1 H => ⟨⟨(H.rdO (A := k.xw.A)).2, fun _ _ => trivial⟩, H.rdD (by infer_instance)⟩) ?_
    rintro r L' ⟨rfl, rfl⟩
    (repeat' (first | refine s_nil ?_))
    refine e_sd PSub.refl ?_
    refine d_rd (fuel := 1) #[true, true, true, true, true, true, true, true, true, true, true, true, true, true, true, true, true, true, true, true, true, false] [20] ?Fgb hD (by kernel_rfl) ?hrgb ?hngb
    case hrgb =>
      change sO _ _ _ _ _ _ (_ :: []) _ _ _
      refine s_max3 rfl rfl rfl ?_
      (repeat' (first | refine s_nil ?_))
      exact e_F
    refine d_end hD (by kernel_rfl) rfl ?_
    change sO _ _ _ _ _ _ (_ :: []) _ _ _
    refine so_sub (L' := [var 78 k.b (⟨k.p, ⟨k.xv, ⟨k.Aa, k.ca, s.A⟩, ⟨k.Ar, k.cr, s.Rt⟩, k.xc⟩, k.xw, s.t⟩ : TaintSolver), own 56 k.xv.A k.xv.xs.length k.xv.c k.xv.xs, own 42 k.Aa s.A.length k.ca s.A, own 42 k.Ar s.Rt.length k.cr s.Rt, own 29 k.xc.A k.xc.xs.length k.xc.c k.xc.xs, own 4 k.xw.A k.xw.xs.length k.xw.c k.xw.xs, bagG EL 3 (fun j => (k.K j).length) k.n k.mv s.V, bagG EB 3 k.NC k.n k.mc k.C, var 60 b5 i]) PSub.refl ?_
    refine s_call (L2 := [var 60 b5 i]) [0, 0, 0, 0, 0, 0, 0, 0] (val_spec k hk s hs f hf i.fDst (max (max (nth s.A i.fArr.toNat) fr) (mayL k.xw.xs i)) hd hdw hmx) rfl rfl (fun _ _ _ => trivial) ?_
    rintro r L' rfl
    (repeat' (first | refine s_nil ?_ | (refine k_E ?_; refine e_bk ?_)))
    refine e_done0N rfl _ (PSub.take [0, 0, 0, 0, 0, 0, 0, 0] rfl) ⟨_, ?_, rfl⟩
    unfold rqI
    rw [if_neg (by omega), if_neg (by omega), if_pos (by omega)]
    exact Went.val hs hd hmx (by show max (max _ (ofE _ _ _)) _ = _; rw [hfr]; rfl)
  · have ho : i.fOp = 5 := by assumption
    have hd := hi.dst (by omega)
    have ha := hi.arr (by omega)
    have hla := lab_nth hs.a i.fArr.toNat
    have hmy := mayL_in (W := k.xw.xs) (i := i)
    have hmx : 0 ≤ max (max (nth s.A i.fArr.toNat) fr) (mayL k.xw.xs i) ∧ max (max (nth s.A i.fArr.toNat) fr) (mayL k.xw.xs i) ≤ 2 := by omega
    refine s_draw _ 21 foI (by kernel_rfl) PSub.refl fun hD => ?_
    refine d_rd (fuel := 3) #[true, true, true, true, true, true, true, true, true, true, true, true, true, true, true, true, true, true, true, false, false, false] [0, 1, 2, 3, 4, 5, 6, 7, 8, 9, 10, 11, 12, 13, 14, 15, 16, 17, 18] ?Fla hD (by kernel_rfl) ?hrla ?hnla
    case hrla =>
      change sO _ _ _ _ _ _ (_ :: _ :: _ :: _ :: _ :: _ :: _ :: _ :: _ :: _ :: _ :: _ :: _ :: _ :: _ :: _ :: _ :: _ :: _ :: []) _ _ _
      (repeat' (first | refine s_move ?_ | refine s_nil ?_ | (refine k_load ?_; first | refine s_ldB rfl rfl ?_ | refine s_ldBW rfl rfl ?_ | refine s_ld rfl om rfl ?_) | (refine k_fld ?_; refine s_fldB rfl ?_) | (refine k_idx ?_; refine s_idxI rfl rfl om om ?_) | refine s_nilck rfl ?_))
      exact e_F
    refine d_all (fuel := 2) [19] (by kernel_rfl) ⟨?_, trivial⟩
    change sO _ _ _ _ _ _ (_ :: []) _ _ _
    skip
    refine s_call0 (may_spec k.xw i) rfl (fun w1 H => ⟨⟨(H.rdO (A := k.xw.A)).2, fun _ _ => trivial⟩, H.rdD (by infer_instance)⟩) ?_
    rintro r L' ⟨rfl, rfl⟩
    (repeat' (first | refine s_nil ?_))
    refine e_sd PSub.refl ?_
    refine d_rd (fuel := 1) #[true, true, true, true, true, true, true, true, true, true, true, true, true, true, true, true, true, true, true, true, true, false] [20] ?Flb hD (by kernel_rfl) ?hrlb ?hnlb
    case hrlb =>
      change sO _ _ _ _ _ _ (_ :: []) _ _ _
      refine s_max3 rfl rfl rfl ?_
      (repeat' (first | refine s_nil ?_))
      exact e_F
    refine d_end hD (by kernel_rfl) rfl ?_
    change sO _ _ _ _ _ _ (_ :: []) _ _ _
    refine so_sub (L' := [var 78 k.b (⟨k.p, ⟨k.xv, ⟨k.Aa, k.ca, s.A⟩, ⟨k.Ar, k.cr, s.Rt⟩, k.xc⟩, k.xw, s.t⟩ : TaintSolver), own 56 k.xv.A k.xv.xs.length k.xv.c k.xv.xs, own 42 k.Aa s.A.length k.ca s.A, own 42 k.Ar s.Rt.length k.cr s.Rt, own 29 k.xc.A k.xc.xs.length k.xc.c k.xc.xs, own 4 k.xw.A k.xw.xs.length k.xw.c k.xw.xs, bagG EL 3 (fun j => (k.K j).length) k.n k.mv s.V, bagG EB 3 k.NC k.n k.mc k.C, var 60 b5 i]) PSub.refl ?_
    refine s_call (L2 := [var 60 b5 i]) [0, 0, 0, 0, 0, 0, 0, 0] (val_spec k hk s hs f hf i.fDst (max (max (nth s.A i.fArr.toNat) fr) (mayL k.xw.xs i)) hd hdw hmx) rfl rfl (fun _ _ _ => trivial) ?_
    rintro r L' rfl
    (repeat' (first | refine s_nil ?_ | (refine k_E ?_; refine e_bk ?_)))
    refine e_done0N rfl _ (PSub.take [0, 0, 0, 0, 0, 0, 0, 0] rfl) ⟨_, ?_, rfl⟩
    unfold rqI
    rw [if_neg (by omega), if_neg (by omega), if_pos (by omega)]
    exact Went.val hs hd hmx (by show max (max _ (ofE _ _ _)) _ = _; rw [hfr]; rfl)
  · have ho : i.fOp = 4 := by assumption
    have ha := hi.arr (by omega)
    have hst := stays_in hof
    refine s_draw _ 11 foI (by kernel_rfl) PSub.refl fun hD => ?_
    refine d_rd (fuel := 2) #[true, true, true, true, true, true, true, true, true, true, false, false] [0, 1, 2, 3, 4, 5, 6, 7, 8, 9] ?Fsa hD (by kernel_rfl) ?hrsa ?hnsa
    case hrsa =>
      change sO _ _ _ _ _ _ (_ :: _ :: _ :: _ :: _ :: _ :: _ :: _ :: _ :: _ :: []) _ _ _
      (repeat' (first | refine s_move ?_ | refine s_nil ?_ | (refine k_load ?_; refine s_ldB rfl rfl ?_) | (refine k_fld ?_; refine s_fldB rfl ?_) | (refine k_idx ?_; refine s_idxI rfl rfl om om ?_) | refine s_nilck rfl ?_))
      exact e_F
    refine d_all (fuel := 1) [10] (by kernel_rfl) ⟨?_, trivial⟩
    change sO _ _ _ _ _ _ (_ :: []) _ _ _
    skip
    refine s_call0 (stays_spec fr) rfl (fun _ _ => trivial) ?_
    rintro r L' ⟨rfl, rfl⟩
    (repeat' (first | refine s_nil ?_))
    refine e_sd PSub.refl ?_
    refine d_end hD (by kernel_rfl) rfl ?_
    change sO _ _ _ _ _ _ (_ :: []) _ _ _
    refine so_sub (L' := [var 78 k.b (⟨k.p, ⟨k.xv, ⟨k.Aa, k.ca, s.A⟩, ⟨k.Ar, k.cr, s.Rt⟩, k.xc⟩, k.xw, s.t⟩ : TaintSolver), own 56 k.xv.A k.xv.xs.length k.xv.c k.xv.xs, own 42 k.Aa s.A.length k.ca s.A, own 42 k.Ar s.Rt.length k.cr s.Rt, own 29 k.xc.A k.xc.xs.length k.xc.c k.xc.xs, own 4 k.xw.A k.xw.xs.length k.xw.c k.xw.xs, bagG EL 3 (fun j => (k.K j).length) k.n k.mv s.V, bagG EB 3 k.NC k.n k.mc k.C, var 60 b5 i]) PSub.refl ?_
    refine s_call (L2 := [own 56 k.xv.A k.xv.xs.length k.xv.c k.xv.xs, own 42 k.Ar s.Rt.length k.cr s.Rt, own 29 k.xc.A k.xc.xs.length k.xc.c k.xc.xs, own 4 k.xw.A k.xw.xs.length k.xw.c k.xw.xs, bagG EL 3 (fun j => (k.K j).length) k.n k.mv s.V, bagG EB 3 k.NC k.n k.mc k.C, var 60 b5 i]) [0, 1] (raiseR_spec k.b k.p _ k.xw s.t k.Aa k.ca s.A i.fArr.toNat (by omega) (stays fr)) rfl rfl (fun _ _ _ => trivial) ?_
    rintro r L' rfl
    rw [solA_set (i := i.fArr.toNat) (x := max (nth s.A i.fArr.toNat) (stays fr))]
    (repeat' (first | refine s_nil ?_ | (refine k_E ?_; refine e_bk ?_)))
    refine e_done0N rfl (solL k (arrL s i.fArr.toNat (stays fr))) (PSub.take [0, 1, 0, 0, 0, 0, 0, 0] rfl) ⟨arrL s i.fArr.toNat (stays fr), ?_, rfl⟩
    unfold rqI
    rw [if_neg (by omega), if_neg (by omega), if_neg (by omega), if_pos (by omega)]
    exact Went.arr hs (by omega) hst (by show stays (ofE _ _ _) = _; rw [hfr])
  · have ho : i.fOp = 6 := by assumption
    have ha := hi.arr (by omega)
    have h2 := hi.two ho
    have hlv := hs.lv hf (nth i.fArgs.xs 1)
    have hst := stays_in hlv
    have hvb := hk.v f hf
    refine s_sub ((PSub.take [8, 0, 0, 0, 0, 0, 0, 0, 0] rfl).trans (PSub.underA fun _ _ => PSub.solOut hf)) ?_
    refine s_draw _ 23 foI (by kernel_rfl) PSub.refl fun hD => ?_
    refine d_rd (fuel := 2) #[true, true, true, true, true, true, true, true, true, true, true, true, true, true, true, true, true, true, true, true, true, true, false, false] [0, 1, 2, 3, 4, 5, 6, 7, 8, 9, 10, 11, 12, 13, 14, 15, 16, 17, 18, 19, 20, 21] ?Fta hD (by kernel_rfl) ?hrta ?hnta
    case hrta =>
      change sO _ _ _ _ _ _ (_ :: _ :: _ :: _ :: _ :: _ :: _ :: _ :: _ :: _ :: _ :: _ :: _ :: _ :: _ :: _ :: _ :: _ :: _ :: _ :: _ :: _ :: []) _ _ _
      (repeat' (first | refine s_move ?_ | (refine k_load ?_; first | refine s_ldB rfl rfl ?_ | refine s_ld rfl om rfl ?_ | refine s_ldS rfl rfl om rfl ?_) | (refine k_fld ?_; refine s_fldB rfl ?_) | (refine k_idx ?_; first | refine s_idx rfl rfl om ?_ | refine s_idxI rfl rfl om om ?_ | refine s_idxS rfl rfl om ?_) | refine s_nilck rfl ?_))
      rw [hvb]
      refine s_lookW rfl rfl ?_
      rw [el_z]
      (repeat' (first | refine s_nil ?_))
      exact e_F
    refine d_all (fuel := 1) [22] (by kernel_rfl) ⟨?_, trivial⟩
    change sO _ _ _ _ _ _ (_ :: []) _ _ _
    skip
    refine s_call0 (stays_spec ((s.V f (nth i.fArgs.xs 1)).getD 0)) rfl (fun _ _ => trivial) ?_
    rintro r L' ⟨rfl, rfl⟩
    (repeat' (first | refine s_nil ?_))
    refine e_sd PSub.refl ?_
    refine d_end hD (by kernel_rfl) rfl ?_
    change sO _ _ _ _ _ _ (_ :: []) _ _ _
    refine so_sub (L' := [var 60 b5 i, mp EL 3 (k.mv f) (k.K f).length (s.V f), mp EB 3 (k.mc f) (k.NC f) (k.C f), var 78 k.b (⟨k.p, ⟨k.xv, ⟨k.Aa, k.ca, s.A⟩, ⟨k.Ar, k.cr, s.Rt⟩, k.xc⟩, k.xw, s.t⟩ : TaintSolver), own 56 k.xv.A k.xv.xs.length k.xv.c k.xv.xs, own 42 k.Aa s.A.length k.ca s.A, own 42 k.Ar s.Rt.length k.cr s.Rt, own 29 k.xc.A k.xc.xs.length k.xc.c k.xc.xs, own 4 k.xw.A k.xw.xs.length k.xw.c k.xw.xs, bagGX EL 3 (fun j => (k.K j).length) k.n k.mv s.V f, bagGX EB 3 k.NC k.n k.mc k.C f]) PSub.refl ?_
    refine s_call (L2 := [var 60 b5 i, mp EL 3 (k.mv f) (k.K f).length (s.V f), mp EB 3 (k.mc f) (k.NC f) (k.C f), own 56 k.xv.A k.xv.xs.length k.xv.c k.xv.xs, own 42 k.Ar s.Rt.length k.cr s.Rt, own 29 k.xc.A k.xc.xs.length k.xc.c k.xc.xs, own 4 k.xw.A k.xw.xs.length k.xw.c k.xw.xs, bagGX EL 3 (fun j => (k.K j).length) k.n k.mv s.V f, bagGX EB 3 k.NC k.n k.mc k.C f]) [3, 4] (raiseR_spec k.b k.p _ k.xw s.t k.Aa k.ca s.A i.fArr.toNat (by omega) (stays ((s.V f (nth i.fArgs.xs 1)).getD 0))) rfl rfl (fun _ _ _ => trivial) ?_
    rintro r L' rfl
    rw [solA_set (i := i.fArr.toNat) (x := max (nth s.A i.fArr.toNat) (stays ((s.V f (nth i.fArgs.xs 1)).getD 0)))]
    (repeat' (first | refine s_nil ?_ | (refine k_E ?_; refine e_bk ?_)))
    refine e_done0N rfl _ ((PSub.take [3, 3, 0, 2, 0, 1, 1, 1, 1, 1] rfl).trans (PSub.solIn (s := arrL s i.fArr.toNat (stays ((s.V f (nth i.fArgs.xs 1)).getD 0))) hf)) ⟨arrL s i.fArr.toNat (stays ((s.V f (nth i.fArgs.xs 1)).getD 0)), ?_, rfl⟩
    unfold rqI
    rw [if_neg (by omega), if_neg (by omega), if_neg (by omega), if_neg (by omega), if_pos (by omega)]
    exact Went.arr hs (by omega) hst rfl
  · have ho : i.fOp = 7 := by assumption
    have hd := hi.dst (by omega)
    obtain ⟨hf0, hf1, hf2, hf3, hf4⟩ := hi.fn ho
    have hfl : i.fFn.toNat < k.n := by omega
    have hft : ((i.fFn.toNat : Nat) : Int) = i.fFn := by omega
    have hvb := hk.v f hf
    refine s_drawA _ foI (by kernel_rfl) PSub.refl ?_
    refine dA_rd (fuel := 2) #[true, true, true, true, true, true, true, true, true, false, false, true] [0, 1, 2, 3, 4, 5, 6, 7, 8, 11] ?F15a (by kernel_rfl) (by kernel_rfl) ?hr15a ?hn15a
    case hr15a =>
      change sO _ _ _ _ _ _ (_ :: _ :: _ :: _ :: _ :: _ :: _ :: _ :: _ :: _ :: []) _ _ _
      (repeat' (first | refine s_move ?_ | refine s_nil ?_ | (refine k_load ?_; first | refine s_ldB rfl rfl ?_ | refine s_ldSA rfl rfl om rfl ?_) | (refine k_fld ?_; refine s_fldB rfl ?_) | (refine k_idx ?_; refine s_idxSI rfl rfl om om ?_) | refine s_nilck rfl ?_))
      exact e_F
    refine d_all (fuel := 1) [9] (by kernel_rfl) ⟨?_, trivial⟩
    change sO _ _ _ _ _ _ (_ :: []) _ _ _
    skip
    refine s_call0 (params_spec (nth k.p.fFuncs.xs i.fFn.toNat)) rfl (fun w1 H => H.rdD (by infer_instance)) ?_
    rintro r L' ⟨rfl, rfl⟩
    (repeat' (first | refine s_nil ?_))
    refine e_sd PSub.refl ?_
    refine dA_rd (fuel := 0) #[true, true, true, true, true, true, true, true, true, true, true, true] [10] ?F15b (by kernel_rfl) (by kernel_rfl) ?hr15b ?hn15b
    case hr15b =>
      change sO _ _ _ _ _ _ (_ :: []) _ _ _
      (repeat' (first | refine s_nil ?_ | (refine k_call ?_; refine s_len rfl ?_)))
      exact e_F
    refine dA_end (by kernel_rfl) ?_
    (repeat' (first | (refine k_C ?_; refine s_block ?_) | (refine k_E ?_; refine e_seq ?_)))
    refine s_loop (σ := Nat × LSt) (fun q => [(0, .pointer (some ⟨k.b, 0, none⟩)), (1, .int .i64 (f : Nat)), (5, .pointer (some ⟨b5, 0, none⟩)), (107, .slice (nth (nth k.p.fFuncs.xs i.fFn.toNat).fBlocks.xs 0).fParams.A (nth (nth k.p.fFuncs.xs i.fFn.toNat).fBlocks.xs 0).fParams.xs.length (nth (nth k.p.fFuncs.xs i.fFn.toNat).fBlocks.xs 0).fParams.c), (108, .int .i64 (nth (nth k.p.fFuncs.xs i.fFn.toNat).fBlocks.xs 0).fParams.xs.length), (109, .int .i64 (q.1 : Nat))]) (fun q => [var 78 k.b (⟨k.p, ⟨k.xv, ⟨k.Aa, k.ca, q.2.A⟩, ⟨k.Ar, k.cr, q.2.Rt⟩, k.xc⟩, k.xw, q.2.t⟩ : TaintSolver), own 56 k.xv.A k.xv.xs.length k.xv.c k.xv.xs, own 42 k.Aa q.2.A.length k.ca q.2.A, own 42 k.Ar q.2.Rt.length k.cr q.2.Rt, own 29 k.xc.A k.xc.xs.length k.xc.c k.xc.xs, own 4 k.xw.A k.xw.xs.length k.xw.c k.xw.xs, bagG EL 3 (fun j => (k.K j).length) k.n k.mv q.2.V, bagG EB 3 k.NC k.n k.mc k.C, var 60 b5 i])
      (fun q => q.1 ≤ (nth (nth k.p.fFuncs.xs i.fFn.toNat).fBlocks.xs 0).fParams.xs.length ∧ Went k (callR k.p k.cut f i q.1) s q.2) (fun q => (nth (nth k.p.fFuncs.xs i.fFn.toNat).fBlocks.xs 0).fParams.xs.length - q.1) (0, s) (by repeat (first | exact trivial | refine ⟨rfl, ?_⟩)) ⟨Nat.zero_le _, Went.nil hs⟩ PSub.refl ?_
    rintro g ⟨j, s1⟩ ⟨hj, hW⟩
    dsimp only at hj hW ⊢
    have hal1 := hW.al
    have hrl1 := hW.rl
    (repeat' (first | refine s_nil ?_ | (refine k_C ?_; first | refine s_seq ?_ | refine s_region ?_) | (refine k_E ?_; refine e_seq ?_) | (refine k_bin ?_; refine s_lss rfl rfl ?_)))
    (first | (refine k_C ?_; (refine s_ifd rfl ?_ ?_ <;> intro hc <;> try (exfalso; omega))))
    · have hjl : j < (nth (nth k.p.fFuncs.xs i.fFn.toNat).fBlocks.xs 0).fParams.xs.length := by omega
      have hja : j < i.fArgs.xs.length := by rw [hf3]; exact hjl
      have hpm : nth (nth (nth k.p.fFuncs.xs i.fFn.toNat).fBlocks.xs 0).fParams.xs j ∈ k.K i.fFn.toNat := hf4 _ (nth_mem hjl)
      have hpw : wfi (nth (nth (nth k.p.fFuncs.xs i.fFn.toNat).fBlocks.xs 0).fParams.xs j) := RdD.int (ok := okOf w0 f0) (w := w0) (by infer_instance)
      have hlv := hW.ok.lv hf (nth i.fArgs.xs j)
      have hst := stays_in hlv
      refine s_sub (L' := [var 60 b5 i, mp EL 3 (k.mv f) (k.K f).length (s1.V f), mp EB 3 (k.mc f) (k.NC f) (k.C f), var 78 k.b (⟨k.p, ⟨k.xv, ⟨k.Aa, k.ca, s1.A⟩, ⟨k.Ar, k.cr, s1.Rt⟩, k.xc⟩, k.xw, s1.t⟩ : TaintSolver), own 56 k.xv.A k.xv.xs.length k.xv.c k.xv.xs, own 42 k.Aa s1.A.length k.ca s1.A, own 42 k.Ar s1.Rt.length k.cr s1.Rt, own 29 k.xc.A k.xc.xs.length k.xc.c k.xc.xs, own 4 k.xw.A k.xw.xs.length k.xw.c k.xw.xs, bagGX EL 3 (fun j => (k.K j).length) k.n k.mv s1.V f, bagGX EB 3 k.NC k.n k.mc k.C f]) ((PSub.take [8, 0, 0, 0, 0, 0, 0, 0, 0] rfl).trans (PSub.underA fun _ _ => PSub.solOut (s := s1) hf)) ?_
      (repeat' (first | refine s_move ?_ | refine s_assign ?_ | refine s_nil ?_ | (refine k_C ?_; first | refine s_seq ?_ | refine s_region ?_ | refine s_skip ?_ | refine s_block ?_) | (refine k_E ?_; refine e_seq ?_) | (refine k_load ?_; refine s_ldS rfl rfl om rfl ?_) | (refine k_idx ?_; refine s_idxS rfl rfl om ?_)))
      refine s_draw _ 19 foI (by kernel_rfl) PSub.refl fun hD => ?_
      refine d_rd (fuel := 2) #[true, true, true, true, true, true, true, true, true, true, true, true, true, true, true, true, true, true, false, false] [0, 1, 2, 3, 4, 5, 6, 7, 8, 9, 10, 11, 12, 13, 14, 15, 16, 17] ?Fca hD (by kernel_rfl) ?hrca ?hnca
      case hrca =>
        change sO _ _ _ _ _ _ (_ :: _ :: _ :: _ :: _ :: _ :: _ :: _ :: _ :: _ :: _ :: _ :: _ :: _ :: _ :: _ :: _ :: _ :: []) _ _ _
        (repeat' (first | refine s_move ?_ | (refine k_load ?_; first | refine s_ldB rfl rfl ?_ | refine s_ld rfl om rfl ?_ | refine s_ldS rfl rfl om rfl ?_) | (refine k_fld ?_; refine s_fldB rfl ?_) | (refine k_idx ?_; first | refine s_idx rfl rfl om ?_ | refine s_idxS rfl rfl om ?_) | refine s_nilck rfl ?_))
        rw [hvb]
        refine s_lookW rfl rfl ?_
        rw [el_z]
        (repeat' (first | refine s_nil ?_))
        exact e_F
      refine d_all (fuel := 1) [18] (by kernel_rfl) ⟨?_, trivial⟩
      change sO _ _ _ _ _ _ (_ :: []) _ _ _
      skip
      refine s_call0 (stays_spec ((s1.V f (nth i.fArgs.xs j)).getD 0)) rfl (fun _ _ => trivial) ?_
      rintro r L' ⟨rfl, rfl⟩
      (repeat' (first | refine s_nil ?_))
      refine e_sd PSub.refl ?_
      refine d_end hD (by kernel_rfl) rfl ?_
      change sO _ _ _ _ _ _ (_ :: []) _ _ _
      refine so_sub (L' := [var 60 b5 i, var 78 k.b (⟨k.p, ⟨k.xv, ⟨k.Aa, k.ca, s1.A⟩, ⟨k.Ar, k.cr, s1.Rt⟩, k.xc⟩, k.xw, s1.t⟩ : TaintSolver), own 56 k.xv.A k.xv.xs.length k.xv.c k.xv.xs, own 42 k.Aa s1.A.length k.ca s1.A, own 42 k.Ar s1.Rt.length k.cr s1.Rt, own 29 k.xc.A k.xc.xs.length k.xc.c k.xc.xs, own 4 k.xw.A k.xw.xs.length k.xw.c k.xw.xs, bagG EL 3 (fun j => (k.K j).length) k.n k.mv s1.V, bagG EB 3 k.NC k.n k.mc k.C]) (PSub.underA fun _ _ => PSub.solIn (s := s1) hf) ?_
      have hsp := val_spec k hk s1 hW.ok i.fFn.toNat hfl (nth (nth (nth k.p.fFuncs.xs i.fFn.toNat).fBlocks.xs 0).fParams.xs j) (stays ((s1.V f (nth i.fArgs.xs j)).getD 0)) hpm hpw hst
      rw [hft] at hsp
      refine s_call (L2 := [var 60 b5 i]) [1, 1, 1, 1, 1, 1, 1, 1] hsp rfl rfl (fun _ _ _ => trivial) ?_
      rintro r L' rfl
      (repeat' (first | refine s_move ?_ | refine s_nil ?_ | (refine k_C ?_; refine s_region ?_) | (refine k_E ?_; first | refine e_seq ?_ | refine e_bk ?_) | (refine k_bin ?_; refine s_add1 rfl rfl om ?_)))
      refine e_lp (j + 1, valL s1 i.fFn.toNat (nth (nth (nth k.p.fFuncs.xs i.fFn.toNat).fBlocks.xs 0).fParams.xs j) (if k.cut i.fFn.toNat (nth (nth (nth k.p.fFuncs.xs i.fFn.toNat).fBlocks.xs 0).fParams.xs j) = true then stays (stays ((s1.V f (nth i.fArgs.xs j)).getD 0)) else stays ((s1.V f (nth i.fArgs.xs j)).getD 0))) (by repeat (first | exact trivial | refine ⟨rfl, ?_⟩)) ⟨by show j + 1 ≤ _; omega, ?_⟩ (by show _ - _ < _ - _; omega) PSub.refl
      have := hW.trans (Went.val hW.ok hpm hst (e := fun L => stays (L (0, f, nth i.fArgs.xs j))) rfl)
      unfold callR at this ⊢
      rw [List.range_succ, List.map_append]
      exact this
    have hjE : j = (nth (nth k.p.fFuncs.xs i.fFn.toNat).fBlocks.xs 0).fParams.xs.length := by omega
    subst hjE
    have hlr := lab_nth hW.ok.r i.fFn.toNat
    refine s_sub (L' := [var 78 k.b (⟨k.p, ⟨k.xv, ⟨k.Aa, k.ca, s1.A⟩, ⟨k.Ar, k.cr, s1.Rt⟩, k.xc⟩, k.xw, s1.t⟩ : TaintSolver), own 56 k.xv.A k.xv.xs.length k.xv.c k.xv.xs, own 42 k.Aa s1.A.length k.ca s1.A, own 42 k.Ar s1.Rt.length k.cr s1.Rt, own 29 k.xc.A k.xc.xs.length k.xc.c k.xc.xs, own 4 k.xw.A k.xw.xs.length k.xw.c k.xw.xs, bagG EL 3 (fun j => (k.K j).length) k.n k.mv s1.V, bagG EB 3 k.NC k.n k.mc k.C, var 60 b5 i]) PSub.refl ?_
    (repeat' (first | (refine k_C ?_; refine s_exit ?_) | (refine k_E ?_; first | refine e_seq ?_ | refine e_seq_exit ?_ | refine e_bk_exit ?_ | refine e_lp_exit ?_)))
    refine s_tail (F := ?F20) 13 [0, 1, 2, 3, 4, 5, 6, 7, 8, 9, 10, 11, 12] foI (by kernel_rfl) ?hr20 ?hn20
    case hr20 =>
      change sO _ _ _ _ _ _ (_ :: _ :: _ :: _ :: _ :: _ :: _ :: _ :: _ :: _ :: _ :: _ :: _ :: []) _ _ _
      (repeat' (first | refine s_move ?_ | refine s_nil ?_ | (refine k_load ?_; first | refine s_ldB rfl rfl ?_ | refine s_ld rfl om rfl ?_) | (refine k_fld ?_; refine s_fldB rfl ?_) | (refine k_idx ?_; refine s_idxI rfl rfl om om ?_) | refine s_nilck rfl ?_))
      exact e_F
    case hn20 =>
      change sO _ _ _ _ _ _ (_ :: []) _ _ _
      refine s_call (L2 := [var 60 b5 i]) [0, 0, 0, 0, 0, 0, 0, 0] (val_spec k hk s1 hW.ok f hf i.fDst (nth s1.Rt i.fFn.toNat) hd hdw hlr) rfl rfl (fun _ _ _ => trivial) ?_
      rintro r L' rfl
      (repeat' (first | refine s_nil ?_ | (refine k_E ?_; refine e_bk ?_)))
      refine e_done0N rfl _ (PSub.take [0, 0, 0, 0, 0, 0, 0, 0] rfl) ⟨_, ?_, rfl⟩
      unfold rqI
      rw [if_neg (by omega), if_neg (by omega), if_neg (by omega), if_neg (by omega), if_neg (by omega), if_pos (by omega)]
      exact hW.trans (Went.val hW.ok hd hlr rfl)
  · refine e_done0N rfl (solL k s) (PSub.take [0, 0, 0, 0, 0, 0, 0, 0] rfl) ⟨s, ?_, rfl⟩
    unfold rqI
    rw [if_neg (by omega), if_neg (by omega), if_neg (by omega), if_neg (by omega), if_neg (by omega), if_neg (by omega)]
    exact Went.nil hs
end Go.Proofs.Ytomhieglgfjloaa
