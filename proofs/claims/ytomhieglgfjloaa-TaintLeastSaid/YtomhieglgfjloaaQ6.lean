/- Layer 12: what a block says, walked. -/
import Derived.Test.YtomhieglgfjloaaQ5
namespace Go.Proofs.Ytomhieglgfjloaa
set_option linter.unusedVariables false
set_option linter.unusedSimpArgs false
open Go Go.RowKit

def parsB (p : SsaProg) (f : Nat) (t : Nat) : List Int := (nth (nth p.fFuncs.xs f).fBlocks.xs t).fParams.xs
def wayR (p : SsaProg) (C : Nat → Int → Bool) (f : Nat) (w : SsaEdge) (n : Nat) : List Rq := (List.range n).map fun k => rqV C f (nth (parsB p f w.fTo.toNat) k) fun L => L (0, f, nth w.fArgs.xs k)
def rqW (p : SsaProg) (C : Nat → Int → Bool) (f : Nat) (w : SsaEdge) : List Rq := wayR p C f w (parsB p f w.fTo.toNat).length
def rqE (f : Nat) (e : SsaEnd) : List Rq := if e.fKind = 3 then [⟨(2, f, 0), fun L => stays (L (0, f, e.fVal))⟩] else []
/-- What a block asks for. -/
def rqB (p : SsaProg) (C : Nat → Int → Bool) (W : List Bool) (f : Nat) (b : SsaBlock) : List Rq := b.fIns.xs.flatMap (rqI p C W f) ++ b.fEnd.fWays.xs.flatMap (rqW p C f) ++ rqE f b.fEnd
structure WayOk (k : TC) (f : Nat) (w : SsaEdge) : Prop where
  to0 : 0 ≤ w.fTo
  to1 : w.fTo < (nth k.p.fFuncs.xs f).fBlocks.xs.length
  al : w.fArgs.xs.length = (parsB k.p f w.fTo.toNat).length
  n : (parsB k.p f w.fTo.toNat).length ≤ 1000
  K : ∀ v ∈ parsB k.p f w.fTo.toNat, v ∈ k.K f
structure BlkOk (k : TC) (na : Nat) (f : Nat) (bl : SsaBlock) : Prop where
  il : bl.fIns.xs.length ≤ 1000
  i : ∀ j, j < bl.fIns.xs.length → InsOk k na f (nth bl.fIns.xs j)
  wl : bl.fEnd.fWays.xs.length ≤ 1000
  w : ∀ j, j < bl.fEnd.fWays.xs.length → WayOk k f (nth bl.fEnd.fWays.xs j)
theorem flat_takeN {α β : Type} [Enc α] {g : α → List β} {xs : List α} {j : Nat} (h : j < xs.length) : (xs.take (j + 1)).flatMap g = (xs.take j).flatMap g ++ g (nth xs j) := by
  rw [← takeN h, List.flatMap_append]; simp
set_option maxHeartbeats 8000000 in
theorem block12_spec (k : TC) (hk : k.Ok) (s : LSt) (hs : s.Ok k) (f : Nat) (hf : f < k.n) (bl : SsaBlock) (hb : BlkOk k s.A.length f bl) (hfn : k.p.fFuncs.xs.length = k.n) (hrl : s.Rt.length = k.n) :
    Spec Try.prog 20 [.pointer (some ⟨k.b, 0, none⟩), .int .i64 (f : Nat), .agg (Enc.enc bl).toArray] (solL k s) (fun ok w => RdD ok w k.p ∧ RdD ok w bl) fun r L' => ∃ s', Went k (rqB k.p k.cut k.xw.xs f bl) s s' ∧ L' = solL k s' := by
  refine spec_of Try.func20 rfl rfl fun w0 f0 hR => ?_
  obtain ⟨hRp, hRb⟩ := hR
  have hil := hb.il
  have hwl := hb.wl
  have hnn := hk.n
  have hvl := hk.vl
  have hvb := hk.v f hf
  refine s_sub (L' := [var 78 k.b (⟨k.p, ⟨k.xv, ⟨k.Aa, k.ca, s.A⟩, ⟨k.Ar, k.cr, s.Rt⟩, k.xc⟩, k.xw, s.t⟩ : TaintSolver), own 56 k.xv.A k.xv.xs.length k.xv.c k.xv.xs, own 42 k.Aa s.A.length k.ca s.A, own 42 k.Ar s.Rt.length k.cr s.Rt, own 29 k.xc.A k.xc.xs.length k.xc.c k.xc.xs, own 4 k.xw.A k.xw.xs.length k.xw.c k.xw.xs, bagG EL 3 (fun j => (k.K j).length) k.n k.mv s.V, bagG EB 3 k.NC k.n k.mc k.C]) PSub.refl ?_
  (repeat' (first | refine s_move ?_ | refine s_nil ?_ | (refine k_C ?_; first | refine s_seq ?_ | refine s_region ?_ | refine s_block ?_) | (refine k_E ?_; refine e_seq ?_) | (refine k_load ?_; refine s_ldB rfl rfl ?_) | (refine k_fld ?_; refine s_fldB rfl ?_) | (refine k_call ?_; refine s_len rfl ?_) | (refine s_box _ rfl ?_; intro b)))
  obtain ⟨b5, rfl⟩ : ∃ q, q = b := ⟨_, rfl⟩
  refine s_loop (σ := Nat × LSt) (fun q => [(0, .pointer (some ⟨k.b, 0, none⟩)), (1, .int .i64 (f : Nat)), (5, .pointer (some ⟨b5, 0, none⟩)), (13, .slice bl.fIns.A bl.fIns.xs.length bl.fIns.c), (14, .int .i64 bl.fIns.xs.length), (15, .int .i64 (q.1 : Nat))]) (fun q => [var 78 k.b (⟨k.p, ⟨k.xv, ⟨k.Aa, k.ca, q.2.A⟩, ⟨k.Ar, k.cr, q.2.Rt⟩, k.xc⟩, k.xw, q.2.t⟩ : TaintSolver), own 56 k.xv.A k.xv.xs.length k.xv.c k.xv.xs, own 42 k.Aa q.2.A.length k.ca q.2.A, own 42 k.Ar q.2.Rt.length k.cr q.2.Rt, own 29 k.xc.A k.xc.xs.length k.xc.c k.xc.xs, own 4 k.xw.A k.xw.xs.length k.xw.c k.xw.xs, bagG EL 3 (fun j => (k.K j).length) k.n k.mv q.2.V, bagG EB 3 k.NC k.n k.mc k.C, var 55 b5 bl])
    (fun q => q.1 ≤ bl.fIns.xs.length ∧ Went k ((bl.fIns.xs.take q.1).flatMap (rqI k.p k.cut k.xw.xs f)) s q.2) (fun q => bl.fIns.xs.length - q.1) (0, s) (by repeat (first | exact trivial | refine ⟨rfl, ?_⟩)) ⟨Nat.zero_le _, Went.nil hs⟩ (PSub.take [1, 1, 1, 1, 1, 1, 1, 1, 0] rfl) ?_
  rintro g ⟨j, s1⟩ ⟨hj, hW⟩
  dsimp only at hj hW ⊢
  have hal1 := hW.al
  have hrl1 := hW.rl
  (repeat' (first | refine s_nil ?_ | (refine k_C ?_; first | refine s_seq ?_ | refine s_region ?_) | (refine k_E ?_; refine e_seq ?_) | (refine k_bin ?_; refine s_lss rfl rfl ?_)))
  (first | (refine k_C ?_; (refine s_ifd rfl ?_ ?_ <;> intro hc <;> try (exfalso; omega))))
  · have hjl : j < bl.fIns.xs.length := by omega
    (repeat' (first | refine s_move ?_ | refine s_nil ?_ | (refine k_C ?_; first | refine s_seq ?_ | refine s_region ?_ | refine s_skip ?_ | refine s_block ?_) | (refine k_E ?_; refine e_seq ?_) | (refine k_load ?_; first | refine s_ldBW rfl rfl ?_ | refine s_ldSA rfl rfl om rfl ?_) | (refine k_idx ?_; refine s_idxS rfl rfl om ?_) | (refine k_store ?_; refine s_stW _ rfl rfl ?_) | (refine s_alloc ?_; intro b)))
    obtain ⟨b7, rfl⟩ : ∃ q, q = b := ⟨_, rfl⟩
    refine s_call (L2 := [var 60 b7 (nth bl.fIns.xs j), var 55 b5 bl]) [1, 1, 1, 1, 1, 1, 1, 1] (ins_spec k hk s1 hW.ok f hf (nth bl.fIns.xs j) (by rw [hal1]; exact hb.i j hjl) hfn (by omega)) rfl rfl (fun w1 f1 C => ⟨C.rd (by infer_instance), C.rd (by infer_instance)⟩) ?_
    rintro r L' ⟨s2, hW2, rfl⟩
    (repeat' (first | refine s_move ?_ | refine s_nil ?_ | (refine k_C ?_; refine s_region ?_) | (refine k_E ?_; first | refine e_seq ?_ | refine e_bk ?_) | (refine k_bin ?_; refine s_add1 rfl rfl om ?_)))
    exact e_lp (j + 1, s2) (by repeat (first | exact trivial | refine ⟨rfl, ?_⟩)) ⟨by show j + 1 ≤ _; omega, by show Went k ((bl.fIns.xs.take (j + 1)).flatMap _) s s2; rw [flat_takeN hjl]; exact hW.trans hW2⟩ (by show _ - _ < _ - _; omega) (PSub.take [0, 0, 0, 0, 0, 0, 0, 0, 1] rfl)
  have hjE : j = bl.fIns.xs.length := by omega
  subst hjE
  rw [List.take_length] at hW
  (repeat' (first | refine s_move ?_ | refine s_nil ?_ | (refine k_C ?_; first | refine s_seq ?_ | refine s_region ?_ | refine s_block ?_ | refine s_exit ?_) | (refine k_E ?_; first | refine e_seq ?_ | refine e_seq_exit ?_ | refine e_bk_exit ?_ | refine e_lp_exit ?_) | (refine k_load ?_; refine s_ldB rfl rfl ?_) | (refine k_fld ?_; refine s_fldB rfl ?_) | (refine k_call ?_; refine s_len rfl ?_)))
  refine s_loop (σ := Nat × LSt) (fun q => [(0, .pointer (some ⟨k.b, 0, none⟩)), (1, .int .i64 (f : Nat)), (5, .pointer (some ⟨b5, 0, none⟩)), (26, .slice bl.fEnd.fWays.A bl.fEnd.fWays.xs.length bl.fEnd.fWays.c), (27, .int .i64 bl.fEnd.fWays.xs.length), (28, .int .i64 (q.1 : Nat))]) (fun q => [var 78 k.b (⟨k.p, ⟨k.xv, ⟨k.Aa, k.ca, q.2.A⟩, ⟨k.Ar, k.cr, q.2.Rt⟩, k.xc⟩, k.xw, q.2.t⟩ : TaintSolver), own 56 k.xv.A k.xv.xs.length k.xv.c k.xv.xs, own 42 k.Aa q.2.A.length k.ca q.2.A, own 42 k.Ar q.2.Rt.length k.cr q.2.Rt, own 29 k.xc.A k.xc.xs.length k.xc.c k.xc.xs, own 4 k.xw.A k.xw.xs.length k.xw.c k.xw.xs, bagG EL 3 (fun j => (k.K j).length) k.n k.mv q.2.V, bagG EB 3 k.NC k.n k.mc k.C, var 55 b5 bl])
    (fun q => q.1 ≤ bl.fEnd.fWays.xs.length ∧ Went k (bl.fIns.xs.flatMap (rqI k.p k.cut k.xw.xs f) ++ (bl.fEnd.fWays.xs.take q.1).flatMap (rqW k.p k.cut f)) s q.2) (fun q => bl.fEnd.fWays.xs.length - q.1) (0, s1) (by repeat (first | exact trivial | refine ⟨rfl, ?_⟩)) ⟨Nat.zero_le _, by simpa using hW⟩ PSub.refl ?_
  clear hal1 hrl1 hW
  rintro g2 ⟨j, s1⟩ ⟨hj, hW⟩
  dsimp only at hj hW ⊢
  have hal1 := hW.al
  have hrl1 := hW.rl
  (repeat' (first | refine s_nil ?_ | (refine k_C ?_; first | refine s_seq ?_ | refine s_region ?_) | (refine k_E ?_; refine e_seq ?_) | (refine k_bin ?_; refine s_lss rfl rfl ?_)))
  (first | (refine k_C ?_; (refine s_ifd rfl ?_ ?_ <;> intro hc <;> try (exfalso; omega))))
  · have hjl : j < bl.fEnd.fWays.xs.length := by omega
    obtain ⟨hw0, hw1, hw2, hw3, hw4⟩ := hb.w j hjl
    have hwt : (nth bl.fEnd.fWays.xs j).fTo.toNat < (nth k.p.fFuncs.xs f).fBlocks.xs.length := by omega
    (repeat' (first | refine s_move ?_ | refine s_nil ?_ | (refine k_C ?_; first | refine s_seq ?_ | refine s_region ?_ | refine s_stillP foI rfl (by kernel_rfl) ?_ | refine s_skip ?_ | refine s_block ?_) | (refine k_E ?_; refine e_seq ?_) | (refine k_load ?_; first | refine s_ldB rfl rfl ?_ | refine s_ldS rfl rfl om rfl ?_ | refine s_ldSF rfl rfl om rfl ?_ | refine s_ldSA rfl rfl om rfl ?_) | (refine k_fld ?_; first | refine s_fld rfl ?_ | refine s_fldB rfl ?_) | (refine k_idx ?_; first | refine s_idxS rfl rfl om ?_ | refine s_idxSI rfl rfl om om ?_) | (refine k_store ?_; refine s_stW _ rfl rfl ?_) | (refine k_call ?_; refine s_len rfl ?_) | (refine s_alloc ?_; intro b) | refine s_nilck rfl ?_))
    obtain ⟨b9, rfl⟩ : ∃ q, q = b := ⟨_, rfl⟩
    refine s_loop (σ := Nat × LSt) (fun q => [(0, .pointer (some ⟨k.b, 0, none⟩)), (1, .int .i64 (f : Nat)), (5, .pointer (some ⟨b5, 0, none⟩)), (26, .slice bl.fEnd.fWays.A bl.fEnd.fWays.xs.length bl.fEnd.fWays.c), (27, .int .i64 bl.fEnd.fWays.xs.length), (28, .int .i64 (j : Nat)), (9, .pointer (some ⟨b9, 0, none⟩)), (45, .slice (nth (nth k.p.fFuncs.xs f).fBlocks.xs (nth bl.fEnd.fWays.xs j).fTo.toNat).fParams.A (nth (nth k.p.fFuncs.xs f).fBlocks.xs (nth bl.fEnd.fWays.xs j).fTo.toNat).fParams.xs.length (nth (nth k.p.fFuncs.xs f).fBlocks.xs (nth bl.fEnd.fWays.xs j).fTo.toNat).fParams.c), (46, .int .i64 (nth (nth k.p.fFuncs.xs f).fBlocks.xs (nth bl.fEnd.fWays.xs j).fTo.toNat).fParams.xs.length), (47, .int .i64 (q.1 : Nat))]) (fun q => [var 78 k.b (⟨k.p, ⟨k.xv, ⟨k.Aa, k.ca, q.2.A⟩, ⟨k.Ar, k.cr, q.2.Rt⟩, k.xc⟩, k.xw, q.2.t⟩ : TaintSolver), own 56 k.xv.A k.xv.xs.length k.xv.c k.xv.xs, own 42 k.Aa q.2.A.length k.ca q.2.A, own 42 k.Ar q.2.Rt.length k.cr q.2.Rt, own 29 k.xc.A k.xc.xs.length k.xc.c k.xc.xs, own 4 k.xw.A k.xw.xs.length k.xw.c k.xw.xs, bagG EL 3 (fun j => (k.K j).length) k.n k.mv q.2.V, bagG EB 3 k.NC k.n k.mc k.C, var 74 b9 (nth bl.fEnd.fWays.xs j), var 55 b5 bl])
      (fun q => q.1 ≤ (nth (nth k.p.fFuncs.xs f).fBlocks.xs (nth bl.fEnd.fWays.xs j).fTo.toNat).fParams.xs.length ∧ Went k ((bl.fIns.xs.flatMap (rqI k.p k.cut k.xw.xs f) ++ (bl.fEnd.fWays.xs.take j).flatMap (rqW k.p k.cut f)) ++ wayR k.p k.cut f (nth bl.fEnd.fWays.xs j) q.1) s q.2) (fun q => (nth (nth k.p.fFuncs.xs f).fBlocks.xs (nth bl.fEnd.fWays.xs j).fTo.toNat).fParams.xs.length - q.1) (0, s1) (by repeat (first | exact trivial | refine ⟨rfl, ?_⟩)) ⟨Nat.zero_le _, by show Went k (_ ++ []) s s1; rw [List.append_nil]; exact hW⟩ (PSub.take [1, 1, 1, 1, 1, 1, 1, 1, 0, 0] rfl) ?_
    clear hal1 hrl1 hW
    rintro g3 ⟨m, s1⟩ ⟨hm, hW⟩
    dsimp only at hm hW ⊢
    have hal1 := hW.al
    have hrl1 := hW.rl
    (repeat' (first | refine s_nil ?_ | (refine k_C ?_; first | refine s_seq ?_ | refine s_region ?_) | (refine k_E ?_; refine e_seq ?_) | (refine k_bin ?_; refine s_lss rfl rfl ?_)))
    (first | (refine k_C ?_; (refine s_ifd rfl ?_ ?_ <;> intro hc <;> try (exfalso; omega))))
    rotate_left
    · have hmE : m = (nth (nth k.p.fFuncs.xs f).fBlocks.xs (nth bl.fEnd.fWays.xs j).fTo.toNat).fParams.xs.length := by omega
      subst hmE
      (repeat' (first | refine s_move ?_ | refine s_nil ?_ | (refine k_C ?_; first | refine s_region ?_ | refine s_exit ?_) | (refine k_E ?_; first | refine e_seq ?_ | refine e_seq_exit ?_ | refine e_bk_exit ?_ | refine e_bk ?_ | refine e_lp_exit ?_) | (refine k_bin ?_; refine s_add1 rfl rfl om ?_)))
      exact e_lp (j + 1, s1) (by repeat (first | exact trivial | refine ⟨rfl, ?_⟩)) ⟨by show j + 1 ≤ _; omega, by show Went k (_ ++ (bl.fEnd.fWays.xs.take (j + 1)).flatMap _) s s1; rw [flat_takeN hjl, ← List.append_assoc]; exact hW⟩ (by show _ - _ < _ - _; omega) (PSub.take [0, 0, 0, 0, 0, 0, 0, 0, 1] rfl)
    have hml : m < (nth (nth k.p.fFuncs.xs f).fBlocks.xs (nth bl.fEnd.fWays.xs j).fTo.toNat).fParams.xs.length := by omega
    have hma : m < (nth bl.fEnd.fWays.xs j).fArgs.xs.length := by rw [hw2]; exact hml
    have hpm : nth (nth (nth k.p.fFuncs.xs f).fBlocks.xs (nth bl.fEnd.fWays.xs j).fTo.toNat).fParams.xs m ∈ k.K f := hw4 _ (nth_mem hml)
    have hpw : wfi (nth (nth (nth k.p.fFuncs.xs f).fBlocks.xs (nth bl.fEnd.fWays.xs j).fTo.toNat).fParams.xs m) := RdD.int (ok := okOf w0 f0) (w := w0) (by infer_instance)
    have hlv := hW.ok.lv hf (nth (nth bl.fEnd.fWays.xs j).fArgs.xs m)
    refine s_sub (L' := [mp EL 3 (k.mv f) (k.K f).length (s1.V f), mp EB 3 (k.mc f) (k.NC f) (k.C f), var 78 k.b (⟨k.p, ⟨k.xv, ⟨k.Aa, k.ca, s1.A⟩, ⟨k.Ar, k.cr, s1.Rt⟩, k.xc⟩, k.xw, s1.t⟩ : TaintSolver), own 56 k.xv.A k.xv.xs.length k.xv.c k.xv.xs, own 42 k.Aa s1.A.length k.ca s1.A, own 42 k.Ar s1.Rt.length k.cr s1.Rt, own 29 k.xc.A k.xc.xs.length k.xc.c k.xc.xs, own 4 k.xw.A k.xw.xs.length k.xw.c k.xw.xs, bagGX EL 3 (fun j => (k.K j).length) k.n k.mv s1.V f, bagGX EB 3 k.NC k.n k.mc k.C f, var 74 b9 (nth bl.fEnd.fWays.xs j), var 55 b5 bl]) ((PSub.take [8, 8, 0, 0, 0, 0, 0, 0, 0, 0] rfl).trans ((PSub.underA fun _ _ => PSub.underA fun _ _ => PSub.solOut (s := s1) hf).trans (PSub.take [2, 2, 2, 2, 2, 2, 2, 2, 2, 2, 0, 0] rfl))) ?_
    (repeat' (first | refine s_move ?_ | refine s_assign ?_ | refine s_nil ?_ | (refine k_C ?_; first | refine s_seq ?_ | refine s_region ?_ | refine s_skip ?_ | refine s_block ?_) | (refine k_E ?_; refine e_seq ?_) | (refine k_load ?_; refine s_ldS rfl rfl om rfl ?_) | (refine k_idx ?_; refine s_idxS rfl rfl om ?_)))
    refine s_tail (F := ?F12) 17 [0, 1, 2, 3, 4, 5, 6, 7, 8, 9, 10, 11, 12, 13, 14, 15, 16] foI (by kernel_rfl) ?hr12 ?hn12
    case hr12 =>
      change sO _ _ _ _ _ _ (_ :: _ :: _ :: _ :: _ :: _ :: _ :: _ :: _ :: _ :: _ :: _ :: _ :: _ :: _ :: _ :: _ :: []) _ _ _
      (repeat' (first | refine s_move ?_ | (refine k_load ?_; first | refine s_ldB rfl rfl ?_ | refine s_ld rfl om rfl ?_ | refine s_ldS rfl rfl om rfl ?_) | (refine k_fld ?_; refine s_fldB rfl ?_) | (refine k_idx ?_; first | refine s_idx rfl rfl om ?_ | refine s_idxS rfl rfl om ?_) | refine s_nilck rfl ?_))
      rw [hvb]
      refine s_lookW rfl rfl ?_
      rw [el_z]
      (repeat' (first | refine s_nil ?_))
      exact e_F
    case hn12 =>
      change sO _ _ _ _ _ _ (_ :: []) _ _ _
      refine so_sub (L' := [var 74 b9 (nth bl.fEnd.fWays.xs j), var 55 b5 bl, var 78 k.b (⟨k.p, ⟨k.xv, ⟨k.Aa, k.ca, s1.A⟩, ⟨k.Ar, k.cr, s1.Rt⟩, k.xc⟩, k.xw, s1.t⟩ : TaintSolver), own 56 k.xv.A k.xv.xs.length k.xv.c k.xv.xs, own 42 k.Aa s1.A.length k.ca s1.A, own 42 k.Ar s1.Rt.length k.cr s1.Rt, own 29 k.xc.A k.xc.xs.length k.xc.c k.xc.xs, own 4 k.xw.A k.xw.xs.length k.xw.c k.xw.xs, bagG EL 3 (fun j => (k.K j).length) k.n k.mv s1.V, bagG EB 3 k.NC k.n k.mc k.C]) ((PSub.take [10, 10, 0, 0, 0, 0, 0, 0, 0, 0, 0, 0] rfl).trans (PSub.underA fun _ _ => PSub.underA fun _ _ => PSub.solIn (s := s1) hf)) ?_
      refine s_call (L2 := [var 74 b9 (nth bl.fEnd.fWays.xs j), var 55 b5 bl]) [2, 2, 2, 2, 2, 2, 2, 2] (val_spec k hk s1 hW.ok f hf (nth (nth (nth k.p.fFuncs.xs f).fBlocks.xs (nth bl.fEnd.fWays.xs j).fTo.toNat).fParams.xs m) ((s1.V f (nth (nth bl.fEnd.fWays.xs j).fArgs.xs m)).getD 0) hpm hpw hlv) rfl rfl (fun _ _ _ => trivial) ?_
      rintro r L' rfl
      (repeat' (first | refine s_move ?_ | refine s_nil ?_ | (refine k_C ?_; refine s_region ?_) | (refine k_E ?_; first | refine e_seq ?_ | refine e_bk ?_) | (refine k_bin ?_; refine s_add1 rfl rfl om ?_)))
      refine e_lp (m + 1, valL s1 f (nth (nth (nth k.p.fFuncs.xs f).fBlocks.xs (nth bl.fEnd.fWays.xs j).fTo.toNat).fParams.xs m) (if k.cut f (nth (nth (nth k.p.fFuncs.xs f).fBlocks.xs (nth bl.fEnd.fWays.xs j).fTo.toNat).fParams.xs m) = true then stays ((s1.V f (nth (nth bl.fEnd.fWays.xs j).fArgs.xs m)).getD 0) else (s1.V f (nth (nth bl.fEnd.fWays.xs j).fArgs.xs m)).getD 0)) (by repeat (first | exact trivial | refine ⟨rfl, ?_⟩)) ⟨by show m + 1 ≤ _; omega, ?_⟩ (by show _ - _ < _ - _; omega) PSub.refl
      have := hW.trans (Went.val hW.ok hpm hlv (e := fun L => L (0, f, nth (nth bl.fEnd.fWays.xs j).fArgs.xs m)) rfl)
      unfold wayR at this ⊢
      rw [List.range_succ, List.map_append, ← List.append_assoc]
      exact this
  have hjE : j = bl.fEnd.fWays.xs.length := by omega
  subst hjE
  rw [List.take_length] at hW
  (repeat' (first | refine s_nil ?_ | (refine k_C ?_; first | refine s_seq ?_ | refine s_region ?_ | refine s_skip ?_ | refine s_exit ?_ | (refine s_ifd rfl ?_ ?_ <;> intro hc <;> try (exfalso; omega))) | (refine k_E ?_; first | refine e_seq ?_ | refine e_seq_exit ?_ | refine e_bk_exit ?_ | refine e_lp_exit ?_) | (refine k_load ?_; refine s_ldB rfl rfl ?_) | (refine k_bin ?_; refine s_eql rfl rfl ?_) | (refine k_fld ?_; refine s_fldB rfl ?_)))
  · have h3 : bl.fEnd.fKind = 3 := by assumption
    have hlv := hW.ok.lv hf bl.fEnd.fVal
    have hst := stays_in hlv
    have hfr : f < s1.Rt.length := by omega
    refine s_sub (L' := [var 55 b5 bl, mp EL 3 (k.mv f) (k.K f).length (s1.V f), mp EB 3 (k.mc f) (k.NC f) (k.C f), var 78 k.b (⟨k.p, ⟨k.xv, ⟨k.Aa, k.ca, s1.A⟩, ⟨k.Ar, k.cr, s1.Rt⟩, k.xc⟩, k.xw, s1.t⟩ : TaintSolver), own 56 k.xv.A k.xv.xs.length k.xv.c k.xv.xs, own 42 k.Aa s1.A.length k.ca s1.A, own 42 k.Ar s1.Rt.length k.cr s1.Rt, own 29 k.xc.A k.xc.xs.length k.xc.c k.xc.xs, own 4 k.xw.A k.xw.xs.length k.xw.c k.xw.xs, bagGX EL 3 (fun j => (k.K j).length) k.n k.mv s1.V f, bagGX EB 3 k.NC k.n k.mc k.C f]) ((PSub.take [8, 0, 0, 0, 0, 0, 0, 0, 0] rfl).trans (PSub.underA fun _ _ => PSub.solOut (s := s1) hf)) ?_
    refine s_draw _ 21 foI (by kernel_rfl) PSub.refl fun hD => ?_
    refine d_rd (fuel := 2) #[true, true, true, true, true, true, true, true, true, true, true, true, true, true, true, true, true, true, true, true, false, false] [0, 1, 2, 3, 4, 5, 6, 7, 8, 9, 10, 11, 12, 13, 14, 15, 16, 17, 18, 19] ?Fe hD (by kernel_rfl) ?hre ?hne
    case hre =>
      change sO _ _ _ _ _ _ (_ :: _ :: _ :: _ :: _ :: _ :: _ :: _ :: _ :: _ :: _ :: _ :: _ :: _ :: _ :: _ :: _ :: _ :: _ :: _ :: []) _ _ _
      (repeat' (first | refine s_move ?_ | (refine k_load ?_; first | refine s_ldB rfl rfl ?_ | refine s_ld rfl om rfl ?_) | (refine k_fld ?_; refine s_fldB rfl ?_) | (refine k_idx ?_; refine s_idx rfl rfl om ?_) | refine s_nilck rfl ?_))
      rw [hvb]
      refine s_lookW rfl rfl ?_
      rw [el_z]
      (repeat' (first | refine s_nil ?_))
      exact e_F
    refine d_all (fuel := 1) [20] (by kernel_rfl) ⟨?_, trivial⟩
    change sO _ _ _ _ _ _ (_ :: []) _ _ _
    skip
    refine s_call0 (stays_spec ((s1.V f bl.fEnd.fVal).getD 0)) rfl (fun _ _ => trivial) ?_
    rintro r L' ⟨rfl, rfl⟩
    (repeat' (first | refine s_nil ?_))
    refine e_sd PSub.refl ?_
    refine d_end hD (by kernel_rfl) rfl ?_
    change sO _ _ _ _ _ _ (_ :: []) _ _ _
    refine so_sub (L' := [var 55 b5 bl, mp EL 3 (k.mv f) (k.K f).length (s1.V f), mp EB 3 (k.mc f) (k.NC f) (k.C f), var 78 k.b (⟨k.p, ⟨k.xv, ⟨k.Aa, k.ca, s1.A⟩, ⟨k.Ar, k.cr, s1.Rt⟩, k.xc⟩, k.xw, s1.t⟩ : TaintSolver), own 56 k.xv.A k.xv.xs.length k.xv.c k.xv.xs, own 42 k.Aa s1.A.length k.ca s1.A, own 42 k.Ar s1.Rt.length k.cr s1.Rt, own 29 k.xc.A k.xc.xs.length k.xc.c k.xc.xs, own 4 k.xw.A k.xw.xs.length k.xw.c k.xw.xs, bagGX EL 3 (fun j => (k.K j).length) k.n k.mv s1.V f, bagGX EB 3 k.NC k.n k.mc k.C f]) PSub.refl ?_
    refine s_call (L2 := [var 55 b5 bl, mp EL 3 (k.mv f) (k.K f).length (s1.V f), mp EB 3 (k.mc f) (k.NC f) (k.C f), own 56 k.xv.A k.xv.xs.length k.xv.c k.xv.xs, own 42 k.Aa s1.A.length k.ca s1.A, own 29 k.xc.A k.xc.xs.length k.xc.c k.xc.xs, own 4 k.xw.A k.xw.xs.length k.xw.c k.xw.xs, bagGX EL 3 (fun j => (k.K j).length) k.n k.mv s1.V f, bagGX EB 3 k.NC k.n k.mc k.C f]) [3, 5] (raiseR_spec k.b k.p _ k.xw s1.t k.Ar k.cr s1.Rt f hfr (stays ((s1.V f bl.fEnd.fVal).getD 0))) rfl rfl (fun _ _ _ => trivial) ?_
    rintro r L' rfl
    rw [solR_set (i := f) (x := max (nth s1.Rt f) (stays ((s1.V f bl.fEnd.fVal).getD 0)))]
    (repeat' (first | refine s_nil ?_))
    refine e_done0N rfl _ ((PSub.take [3, 3, 0, 2, 2, 0, 1, 1, 1, 1] rfl).trans (PSub.solIn (s := retL s1 f (stays ((s1.V f bl.fEnd.fVal).getD 0))) hf)) ⟨retL s1 f (stays ((s1.V f bl.fEnd.fVal).getD 0)), ?_, rfl⟩
    unfold rqB rqE
    rw [if_pos h3]
    exact hW.trans (Went.ret hW.ok hfr hst rfl)
  · have h3 : ¬ bl.fEnd.fKind = 3 := by assumption
    refine e_done0N rfl _ (PSub.take [0, 0, 0, 0, 0, 0, 0, 0] rfl) ⟨s1, ?_, rfl⟩
    unfold rqB rqE
    rw [if_neg h3, List.append_nil]
    exact hW
end Go.Proofs.Ytomhieglgfjloaa
