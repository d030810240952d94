/- SsaClones, walked. -/
import Derived.Test.YtboicgdblbfbeaaS27
namespace Go.Proofs.Ytboicgdblbfbeaa
set_option linter.unusedVariables false
set_option linter.unusedSimpArgs false
open Go Go.RowKit

section
variable {w0 : World} {f0 : FP} {L l : List HP} {a b : HP}
theorem PSub.starCons : PSub w0 f0 (star (a :: l) :: L) (a :: star l :: L) := PSub.starOut (ps := a :: l) (j := 0) rfl
theorem PSub.un2 : PSub w0 f0 (star [a, b] :: L) (a :: b :: L) := PSub.unstar (ps := [a, b])
theorem PSub.un3 {c : HP} : PSub w0 f0 (star [a, b, c] :: L) (a :: b :: c :: L) := PSub.unstar (ps := [a, b, c])
theorem PSub.starDrop {α : Type} [Enc α] {F : α → HP} {xs : List α} {k : Nat} (h : k < xs.length) : PSub w0 f0 (star ((xs.drop k).map F) :: L) (F (nth xs k) :: star ((xs.drop (k + 1)).map F) :: L) := by
  rw [List.drop_eq_getElem_cons h, List.map_cons, ← nth_get h]
  exact PSub.starCons
end
set_option maxHeartbeats 8000000 in
theorem clones_spec (p : SsaProg) : Spec Try.prog 5 [.agg (Enc.enc p).toArray] [] (fun ok w => RdD ok w p) fun r L' => r = .bool true ∧ L' = [] := by
  refine spec_of Try.func5 rfl rfl fun w0 f0 hR => ?_
  (repeat' (first | refine s_assign ?_ | refine s_nil ?_ | (refine k_C ?_; first | refine s_seq ?_ | refine s_region ?_) | (refine k_E ?_; refine e_seq ?_) | (refine s_box _ rfl ?_; intro b)))
  obtain ⟨b1, rfl⟩ : ∃ q, q = b := ⟨_, rfl⟩
  refine s_call0 head7_spec rfl (fun _ _ => trivial) ?_
  rintro r L' ⟨rfl, rfl⟩
  (repeat' (first | refine s_nil ?_ | (refine k_C ?_; first | refine s_seq ?_ | refine s_region ?_ | refine s_skip ?_ | refine s_iff rfl ?_) | (refine k_E ?_; refine e_seq ?_) | (refine k_load ?_; refine s_ldBW rfl rfl ?_) | refine s_not rfl ?_))
  refine s_call0 (few_spec p) rfl (fun w1 H => H.rdD (by infer_instance)) ?_
  rintro r L' ⟨few, rfl, rfl, hfew⟩
  (repeat' (first | refine s_assign ?_ | refine s_nil ?_ | (refine k_C ?_; first | refine s_seq ?_ | refine s_region ?_ | refine s_skip ?_ | refine s_ret ?_ | (refine s_if rfl ?_ ?_ <;> intro hc)) | (refine k_E ?_; first | refine e_seq ?_ | refine e_seq_ret ?_) | (refine k_load ?_; refine s_ldBW rfl rfl ?_) | refine s_not rfl ?_))
  · exact e_done rfl rfl [] (PSub.take [] rfl) ⟨rfl, rfl⟩
  have hp := hfew (by simpa using hc)
  have hpF := fewP_pr hp
  refine s_call0 (check_spec p hpF) rfl (fun w1 H => H.rdD (by infer_instance)) ?_
  rintro r L' ⟨rfl, rfl⟩
  generalize hwas : (if checkB p = true then (0 : Int) else 40) = was
  (repeat' (first | refine s_assign ?_ | refine s_nil ?_ | (refine k_C ?_; first | refine s_seq ?_ | refine s_region ?_) | (refine k_E ?_; refine e_seq ?_) | (refine k_load ?_; refine s_ldBW rfl rfl ?_)))
  refine s_call0 (cloneP_spec p hp) rfl (fun w1 H => H.rdD (by infer_instance)) ?_
  rintro r L' ⟨c, rfl, rfl, hce⟩
  (repeat' (first | refine s_nil ?_ | (refine k_C ?_; first | refine s_seq ?_ | refine s_region ?_) | (refine k_E ?_; refine e_seq ?_) | (refine k_load ?_; refine s_ldBW rfl rfl ?_) | (refine k_store ?_; refine s_stW _ rfl rfl ?_) | (refine s_alloc ?_; intro b)))
  rename Nat => b4
  refine s_call [] (check_spec c (fewPE hce hpF)) rfl rfl (fun w1 f1 C => ?_) ?_
  · obtain ⟨g, hg, hok⟩ := C.piece (i := 1) rfl
    exact ⟨progP.rd hg hok hce hR.h⟩
  have hcc : (if checkB c = true then (0 : Int) else 40) = was := by rw [check_copy hce]; exact hwas
  rintro r L' ⟨rfl, rfl⟩
  rw [hcc]
  (repeat' (first | refine s_move ?_ | refine s_nil ?_ | (refine k_C ?_; first | refine s_seq ?_ | refine s_region ?_ | refine s_skip ?_ | refine s_block ?_ | (refine s_ifn rfl ?_ ?_ <;> intro hc <;> try (exfalso; omega))) | (refine k_E ?_; refine e_seq ?_) | (refine k_load ?_; refine s_ldB rfl rfl ?_) | (refine k_bin ?_; refine s_neq rfl rfl ?_) | (refine k_fld ?_; refine s_fldB rfl ?_) | (refine k_call ?_; refine s_len rfl ?_)))
  have e1 : c.fArrays.xs = p.fArrays.xs := by have q := congrArg (fun p => p.fArrays.xs) hce; exact q
  have hcF := fewPE hce hpF
  have hpa := hp.a
  have hpf := hp.f
  have hca : c.fArrays.xs.length ≤ 10 := by rw [e1]; exact hpa
  have e2 : c.fFuncs.xs.map eF = p.fFuncs.xs.map eF := by have q := congrArg (fun p => p.fFuncs.xs) hce; exact q
  have hcf : c.fFuncs.xs.length ≤ 5 := by have := congrArg List.length e2; simp only [List.length_map] at this; omega
  refine s_loop (σ := Nat × List SsaArray) (fun q => [(1, .pointer (some ⟨b1, 0, none⟩)), (3, .int .i64 was), (4, .pointer (some ⟨b4, 0, none⟩)), (29, .int .i64 c.fArrays.xs.length), (30, .int .i64 (q.1 : Nat))])
    (fun q => [own 29 c.fArrays.A c.fArrays.xs.length c.fArrays.c q.2, own 47 c.fFuncs.A c.fFuncs.xs.length c.fFuncs.c c.fFuncs.xs, star (c.fFuncs.xs.map funP), var 26 b4 c, var 26 b1 p])
    (fun q => q.1 ≤ c.fArrays.xs.length) (fun q => c.fArrays.xs.length - q.1) (0, c.fArrays.xs) (by repeat (first | exact trivial | refine ⟨rfl, ?_⟩)) (Nat.zero_le _) ((PSub.take [1, 0, 0] rfl).trans ((PSub.un3 (L := [var 26 b4 c, var 26 b1 p])).trans (PSub.take [0, 0, 0, 0, 0] rfl))) ?_
  rintro g ⟨k, al⟩ hk
  dsimp only at hk ⊢
  (repeat' (first | refine s_nil ?_ | (refine k_C ?_; first | refine s_seq ?_ | refine s_region ?_) | (refine k_E ?_; refine e_seq ?_) | (refine k_bin ?_; refine s_lss rfl rfl ?_)))
  (first | (refine k_C ?_; (refine s_ifd rfl ?_ ?_ <;> intro hc <;> try (exfalso; omega))))
  · have hkn : k < c.fArrays.xs.length := by omega
    (repeat' (first | refine s_move ?_ | refine s_assign ?_ | refine s_nil ?_ | (refine k_C ?_; first | refine s_seq ?_ | refine s_region ?_ | refine s_skip ?_ | refine s_block ?_) | (refine k_E ?_; refine e_seq ?_) | (refine k_load ?_; refine s_ldB rfl rfl ?_) | (refine k_fld ?_; first | refine s_fld rfl ?_ | refine s_fldB rfl ?_) | (refine k_idx ?_; refine s_idx rfl rfl om ?_)))
    refine s_stF (⟨(nth al k).fName, (nth al k).fHold, -1⟩ : SsaArray) rfl rfl (by rfl) (by decide) (by omega) ?_
    (repeat' (first | refine s_move ?_ | refine s_nil ?_ | (refine k_C ?_; refine s_region ?_) | (refine k_E ?_; first | refine e_seq ?_ | refine e_bk ?_) | (refine k_bin ?_; refine s_add1 rfl rfl om ?_)))
    exact e_lp (k + 1, al.set k ⟨(nth al k).fName, (nth al k).fHold, -1⟩) (by repeat (first | exact trivial | refine ⟨rfl, ?_⟩)) (by show k + 1 ≤ _; omega) (by show _ - _ < _ - _; omega) PSub.refl
  (repeat' (first | refine s_move ?_ | refine s_nil ?_ | (refine k_C ?_; first | refine s_seq ?_ | refine s_region ?_ | refine s_block ?_ | refine s_exit ?_) | (refine k_E ?_; first | refine e_seq ?_ | refine e_seq_exit ?_ | refine e_bk_exit ?_ | refine e_lp_exit ?_) | (refine k_load ?_; refine s_ldB rfl rfl ?_) | (refine k_fld ?_; refine s_fldB rfl ?_) | (refine k_call ?_; refine s_len rfl ?_)))
  refine s_loop (σ := Nat × List SsaFunc) (fun q => [(1, .pointer (some ⟨b1, 0, none⟩)), (3, .int .i64 was), (4, .pointer (some ⟨b4, 0, none⟩)), (41, .int .i64 c.fFuncs.xs.length), (42, .int .i64 (q.1 : Nat))])
    (fun q => [own 47 c.fFuncs.A c.fFuncs.xs.length c.fFuncs.c q.2, star ((c.fFuncs.xs.drop q.1).map funP), var 26 b4 c, var 26 b1 p])
    (fun q => q.1 ≤ c.fFuncs.xs.length ∧ ∀ m, q.1 ≤ m → nth q.2 m = nth c.fFuncs.xs m) (fun q => c.fFuncs.xs.length - q.1) (0, c.fFuncs.xs) (by repeat (first | exact trivial | refine ⟨rfl, ?_⟩)) ⟨Nat.zero_le _, fun _ _ => rfl⟩ (PSub.take [1, 1, 1, 1] rfl) ?_
  rintro g ⟨k, fl⟩ ⟨hk, hfs⟩
  dsimp only at hk hfs ⊢
  (repeat' (first | refine s_nil ?_ | (refine k_C ?_; first | refine s_seq ?_ | refine s_region ?_) | (refine k_E ?_; refine e_seq ?_) | (refine k_bin ?_; refine s_lss rfl rfl ?_)))
  (first | (refine k_C ?_; (refine s_ifd rfl ?_ ?_ <;> intro hc <;> try (exfalso; omega))))
  rotate_left
  · (repeat' (first | (refine k_C ?_; first | refine s_seq ?_ | refine s_region ?_ | refine s_exit ?_) | (refine k_E ?_; first | refine e_seq ?_ | refine e_seq_exit ?_ | refine e_bk_exit ?_ | refine e_lp_exit ?_) | (refine k_load ?_; refine s_ldBW rfl rfl ?_)))
    refine s_call0 (check_spec p hpF) rfl (fun w1 H => H.rdD (by infer_instance)) ?_
    rintro r L' ⟨rfl, rfl⟩
    rw [hwas]
    (repeat' (first | refine s_move ?_ | refine s_assign ?_ | refine s_nil ?_ | (refine k_C ?_; refine s_ret ?_) | (refine k_E ?_; refine e_seq ?_) | (refine k_bin ?_; refine s_eql rfl rfl ?_)))
    exact e_done rfl rfl [] (PSub.take [] rfl) ⟨congrArg Value.bool (decide_eq_true rfl), rfl⟩
  have hkn : k < c.fFuncs.xs.length := by omega
  have hf0 : nth c.fFuncs.xs k = nth fl k := (hfs k (Nat.le_refl _)).symm
  refine s_sub ((PSub.take [1, 0, 0, 0] rfl).trans (PSub.starDrop hkn)) ?_
  rw [hf0]
  refine s_sub ((PSub.un2 : PSub w0 f0 (funP (nth fl k) :: [star ((c.fFuncs.xs.drop (k + 1)).map funP), own 47 c.fFuncs.A c.fFuncs.xs.length c.fFuncs.c fl, var 26 b4 c, var 26 b1 p]) _)) ?_
  (repeat' (first | refine s_move ?_ | refine s_assign ?_ | refine s_nil ?_ | (refine k_C ?_; first | refine s_seq ?_ | refine s_region ?_ | refine s_skip ?_ | refine s_block ?_) | (refine k_E ?_; refine e_seq ?_) | (refine k_load ?_; first | refine s_ldB rfl rfl ?_ | refine s_ldF rfl om rfl ?_) | (refine k_fld ?_; first | refine s_fld rfl ?_ | refine s_fldB rfl ?_) | (refine k_idx ?_; refine s_idx rfl rfl om ?_) | (refine k_call ?_; refine s_len rfl ?_)))
  have hBl : (nth fl k).fBlocks.xs.length ≤ 1000 := by rw [← hf0]; exact (hcF.f k).b
  refine s_loop (σ := Nat × List SsaBlock) (fun q => [(1, .pointer (some ⟨b1, 0, none⟩)), (3, .int .i64 was), (4, .pointer (some ⟨b4, 0, none⟩)), (41, .int .i64 c.fFuncs.xs.length), (42, .int .i64 (k : Nat)), (6, .int .i64 (k : Nat)), (51, .int .i64 (nth fl k).fBlocks.xs.length), (52, .int .i64 (q.1 : Nat))])
    (fun q => [own 44 (nth fl k).fBlocks.A (nth fl k).fBlocks.xs.length (nth fl k).fBlocks.c q.2, star (((nth fl k).fBlocks.xs.drop q.1).map blkP), own 47 c.fFuncs.A c.fFuncs.xs.length c.fFuncs.c fl, star ((c.fFuncs.xs.drop (k + 1)).map funP), var 26 b4 c, var 26 b1 p])
    (fun q => q.1 ≤ (nth fl k).fBlocks.xs.length ∧ ∀ m, q.1 ≤ m → nth q.2 m = nth (nth fl k).fBlocks.xs m) (fun q => (nth fl k).fBlocks.xs.length - q.1) (0, (nth fl k).fBlocks.xs) (by repeat (first | exact trivial | refine ⟨rfl, ?_⟩)) ⟨Nat.zero_le _, fun _ _ => rfl⟩ (PSub.take [0, 0, 1, 0, 0, 0] rfl) ?_
  rintro g ⟨q, bl⟩ ⟨hq, hbs⟩
  dsimp only at hq hbs ⊢
  (repeat' (first | refine s_nil ?_ | (refine k_C ?_; first | refine s_seq ?_ | refine s_region ?_) | (refine k_E ?_; refine e_seq ?_) | (refine k_bin ?_; refine s_lss rfl rfl ?_)))
  (first | (refine k_C ?_; (refine s_ifd rfl ?_ ?_ <;> intro hc <;> try (exfalso; omega))))
  rotate_left
  · (repeat' (first | refine s_move ?_ | (refine k_C ?_; first | refine s_region ?_ | refine s_exit ?_) | (refine k_E ?_; first | refine e_seq ?_ | refine e_seq_exit ?_ | refine e_bk_exit ?_ | refine e_lp_exit ?_) | (refine k_load ?_; refine s_ldB rfl rfl ?_) | (refine k_fld ?_; first | refine s_fld rfl ?_ | refine s_fldB rfl ?_) | (refine k_idx ?_; refine s_idx rfl rfl om ?_)))
    refine s_stF (⟨⟨⟨#[111, 116, 104, 101, 114]⟩⟩, (nth fl k).fBlocks⟩ : SsaFunc) rfl rfl (by rfl) (by decide) (by omega) ?_
    (repeat' (first | refine s_move ?_ | refine s_nil ?_ | (refine k_C ?_; refine s_region ?_) | (refine k_E ?_; first | refine e_seq ?_ | refine e_bk ?_) | (refine k_bin ?_; refine s_add1 rfl rfl om ?_)))
    refine e_lp (k + 1, fl.set k ⟨⟨⟨#[111, 116, 104, 101, 114]⟩⟩, (nth fl k).fBlocks⟩) (by repeat (first | exact trivial | refine ⟨rfl, ?_⟩)) ⟨by show k + 1 ≤ _; omega, fun m hm => (nth_set_ge hm).trans (hfs m (by have : k + 1 ≤ m := hm; omega))⟩ (by show _ - _ < _ - _; omega) (PSub.take [2, 2, 2, 2] rfl)
  have hqn : q < (nth fl k).fBlocks.xs.length := by omega
  have hb0 : nth (nth fl k).fBlocks.xs q = nth bl q := (hbs q (Nat.le_refl _)).symm
  refine s_sub ((PSub.take [1, 0, 0, 0, 0, 0] rfl).trans (PSub.starDrop hqn)) ?_
  rw [hb0]
  refine s_sub ((PSub.un3 : PSub w0 f0 (blkP (nth bl q) :: [star (((nth fl k).fBlocks.xs.drop (q + 1)).map blkP), own 44 (nth fl k).fBlocks.A (nth fl k).fBlocks.xs.length (nth fl k).fBlocks.c bl, own 47 c.fFuncs.A c.fFuncs.xs.length c.fFuncs.c fl, star ((c.fFuncs.xs.drop (k + 1)).map funP), var 26 b4 c, var 26 b1 p]) _)) ?_
  (repeat' (first | refine s_move ?_ | refine s_assign ?_ | refine s_nil ?_ | (refine k_C ?_; first | refine s_seq ?_ | refine s_region ?_ | refine s_skip ?_ | refine s_block ?_) | (refine k_E ?_; refine e_seq ?_) | (refine k_load ?_; first | refine s_ldB rfl rfl ?_ | refine s_ldF rfl om rfl ?_ | refine s_ldA rfl om rfl ?_) | (refine k_fld ?_; first | refine s_fld rfl ?_ | refine s_fldB rfl ?_) | (refine k_idx ?_; refine s_idx rfl rfl om ?_) | (refine k_store ?_; refine s_stW _ rfl rfl ?_) | (refine k_call ?_; refine s_len rfl ?_) | (refine s_alloc ?_; intro b)))
  rename Nat => b8
  unfold rowP
  refine s_lenO (nth bl q).fParams.A fun hp1 hp2 hp3 => ?_
  simp only [maxLen] at hp3
  refine s_loop (σ := Nat × List Int) (fun j => [(1, .pointer (some ⟨b1, 0, none⟩)), (3, .int .i64 was), (4, .pointer (some ⟨b4, 0, none⟩)), (41, .int .i64 c.fFuncs.xs.length), (42, .int .i64 (k : Nat)), (6, .int .i64 (k : Nat)), (51, .int .i64 (nth fl k).fBlocks.xs.length), (52, .int .i64 (q : Nat)), (7, .int .i64 (q : Nat)), (8, .pointer (some ⟨b8, 0, none⟩)), (66, .int .i64 (nth bl q).fParams.xs.length), (67, .int .i64 (j.1 : Nat))])
    (fun j => [own 3 (nth bl q).fParams.A (nth bl q).fParams.xs.length (nth bl q).fParams.c j.2, insP (nth bl q).fIns, waysP (nth bl q).fEnd.fWays, var 44 b8 (nth bl q), own 44 (nth fl k).fBlocks.A (nth fl k).fBlocks.xs.length (nth fl k).fBlocks.c bl, star (((nth fl k).fBlocks.xs.drop (q + 1)).map blkP), own 47 c.fFuncs.A c.fFuncs.xs.length c.fFuncs.c fl, star ((c.fFuncs.xs.drop (k + 1)).map funP), var 26 b4 c, var 26 b1 p])
    (fun j => j.1 ≤ (nth bl q).fParams.xs.length) (fun j => (nth bl q).fParams.xs.length - j.1) (0, (nth bl q).fParams.xs) (by repeat (first | exact trivial | refine ⟨rfl, ?_⟩)) (Nat.zero_le _) (PSub.take [1, 1, 1, 0, 1, 0, 0, 0, 0, 0] rfl) ?_
  rintro g ⟨j, xs⟩ hj
  dsimp only at hj ⊢
  (repeat' (first | refine s_nil ?_ | (refine k_C ?_; first | refine s_seq ?_ | refine s_region ?_) | (refine k_E ?_; refine e_seq ?_) | (refine k_bin ?_; refine s_lss rfl rfl ?_)))
  (first | (refine k_C ?_; (refine s_ifd rfl ?_ ?_ <;> intro hc <;> try (exfalso; omega))))
  · have hjn : j < (nth bl q).fParams.xs.length := by omega
    (repeat' (first | refine s_move ?_ | refine s_assign ?_ | refine s_nil ?_ | (refine k_C ?_; first | refine s_seq ?_ | refine s_region ?_ | refine s_skip ?_ | refine s_block ?_) | (refine k_E ?_; first | refine e_seq ?_ | refine e_bk ?_) | (refine k_load ?_; refine s_ldB rfl rfl ?_) | (refine k_bin ?_; refine s_add1 rfl rfl om ?_) | (refine k_fld ?_; refine s_fldB rfl ?_) | (refine k_idx ?_; refine s_idx rfl rfl om ?_) | (refine k_store ?_; refine s_st _ rfl rfl om ?_)))
    exact e_lp (j + 1, xs.set j (-1)) (by repeat (first | exact trivial | refine ⟨rfl, ?_⟩)) (by show j + 1 ≤ _; omega) (by show _ - _ < _ - _; omega) PSub.refl
  (repeat' (first | refine s_move ?_ | refine s_nil ?_ | (refine k_C ?_; first | refine s_seq ?_ | refine s_region ?_ | refine s_block ?_ | refine s_exit ?_) | (refine k_E ?_; first | refine e_seq ?_ | refine e_seq_exit ?_ | refine e_bk_exit ?_ | refine e_lp_exit ?_) | (refine k_load ?_; refine s_ldB rfl rfl ?_) | (refine k_fld ?_; refine s_fldB rfl ?_) | (refine k_call ?_; refine s_len rfl ?_)))
  have hIl : (nth bl q).fIns.xs.length ≤ 1000 := by rw [← hb0, ← hf0]; exact (hcF.f k).i q
  have hWl : (nth bl q).fEnd.fWays.xs.length ≤ 1000 := by rw [← hb0, ← hf0]; exact (hcF.f k).w q
  refine s_loop (σ := Nat × List SsaIns) (fun j => [(1, .pointer (some ⟨b1, 0, none⟩)), (3, .int .i64 was), (4, .pointer (some ⟨b4, 0, none⟩)), (41, .int .i64 c.fFuncs.xs.length), (42, .int .i64 (k : Nat)), (6, .int .i64 (k : Nat)), (51, .int .i64 (nth fl k).fBlocks.xs.length), (52, .int .i64 (q : Nat)), (7, .int .i64 (q : Nat)), (8, .pointer (some ⟨b8, 0, none⟩)), (77, .int .i64 (nth bl q).fIns.xs.length), (78, .int .i64 (j.1 : Nat))])
    (fun j => [own 34 (nth bl q).fIns.A (nth bl q).fIns.xs.length (nth bl q).fIns.c j.2, star (((nth bl q).fIns.xs.drop j.1).map fun i => rowP i.fArgs), waysP (nth bl q).fEnd.fWays, var 44 b8 (nth bl q), own 44 (nth fl k).fBlocks.A (nth fl k).fBlocks.xs.length (nth fl k).fBlocks.c bl, star (((nth fl k).fBlocks.xs.drop (q + 1)).map blkP), own 47 c.fFuncs.A c.fFuncs.xs.length c.fFuncs.c fl, star ((c.fFuncs.xs.drop (k + 1)).map funP), var 26 b4 c, var 26 b1 p])
    (fun j => j.1 ≤ (nth bl q).fIns.xs.length ∧ ∀ m, j.1 ≤ m → nth j.2 m = nth (nth bl q).fIns.xs m) (fun j => (nth bl q).fIns.xs.length - j.1) (0, (nth bl q).fIns.xs) (by repeat (first | exact trivial | refine ⟨rfl, ?_⟩)) ⟨Nat.zero_le _, fun _ _ => rfl⟩ ((PSub.take [1, 1, 1, 1, 1, 1, 1, 1, 1] rfl).trans (PSub.un2 : PSub w0 f0 (insP (nth bl q).fIns :: [waysP (nth bl q).fEnd.fWays, var 44 b8 (nth bl q), own 44 (nth fl k).fBlocks.A (nth fl k).fBlocks.xs.length (nth fl k).fBlocks.c bl, star (((nth fl k).fBlocks.xs.drop (q + 1)).map blkP), own 47 c.fFuncs.A c.fFuncs.xs.length c.fFuncs.c fl, star ((c.fFuncs.xs.drop (k + 1)).map funP), var 26 b4 c, var 26 b1 p]) _)) ?_
  rintro g ⟨n, il⟩ ⟨hn, his⟩
  dsimp only at hn his ⊢
  (repeat' (first | refine s_nil ?_ | (refine k_C ?_; first | refine s_seq ?_ | refine s_region ?_) | (refine k_E ?_; refine e_seq ?_) | (refine k_bin ?_; refine s_lss rfl rfl ?_)))
  (first | (refine k_C ?_; (refine s_ifd rfl ?_ ?_ <;> intro hc <;> try (exfalso; omega))))
  · have hnn : n < (nth bl q).fIns.xs.length := by omega
    have hi0 : nth (nth bl q).fIns.xs n = nth il n := (his n (Nat.le_refl _)).symm
    refine s_sub (L' := [own 3 (nth il n).fArgs.A (nth il n).fArgs.xs.length (nth il n).fArgs.c (nth il n).fArgs.xs, star (((nth bl q).fIns.xs.drop (n + 1)).map fun i => rowP i.fArgs), own 34 (nth bl q).fIns.A (nth bl q).fIns.xs.length (nth bl q).fIns.c il, waysP (nth bl q).fEnd.fWays, var 44 b8 (nth bl q), own 44 (nth fl k).fBlocks.A (nth fl k).fBlocks.xs.length (nth fl k).fBlocks.c bl, star (((nth fl k).fBlocks.xs.drop (q + 1)).map blkP), own 47 c.fFuncs.A c.fFuncs.xs.length c.fFuncs.c fl, star ((c.fFuncs.xs.drop (k + 1)).map funP), var 26 b4 c, var 26 b1 p]) ((PSub.take [1, 0, 0, 0, 0, 0, 0, 0, 0, 0] rfl).trans ((PSub.starDrop hnn).trans (PSub.eq (by rw [hi0]; rfl)))) ?_
    (repeat' (first | refine s_move ?_ | refine s_assign ?_ | refine s_nil ?_ | (refine k_C ?_; first | refine s_seq ?_ | refine s_region ?_ | refine s_skip ?_ | refine s_block ?_) | (refine k_E ?_; refine e_seq ?_) | (refine k_load ?_; first | refine s_ldB rfl rfl ?_ | refine s_ldF rfl om rfl ?_) | (refine k_fld ?_; first | refine s_fld rfl ?_ | refine s_fldB rfl ?_) | (refine k_idx ?_; refine s_idx rfl rfl om ?_) | (refine k_call ?_; refine s_len rfl ?_)))
    refine s_lenO (nth il n).fArgs.A fun hp1 hp2 hp3 => ?_
    simp only [maxLen] at hp3
    refine s_loop (σ := Nat × List Int) (fun j => [(1, .pointer (some ⟨b1, 0, none⟩)), (3, .int .i64 was), (4, .pointer (some ⟨b4, 0, none⟩)), (41, .int .i64 c.fFuncs.xs.length), (42, .int .i64 (k : Nat)), (6, .int .i64 (k : Nat)), (51, .int .i64 (nth fl k).fBlocks.xs.length), (52, .int .i64 (q : Nat)), (7, .int .i64 (q : Nat)), (8, .pointer (some ⟨b8, 0, none⟩)), (77, .int .i64 (nth bl q).fIns.xs.length), (78, .int .i64 (n : Nat)), (10, .int .i64 (n : Nat)), (87, .int .i64 (nth il n).fArgs.xs.length), (88, .int .i64 (j.1 : Nat))])
      (fun j => [own 3 (nth il n).fArgs.A (nth il n).fArgs.xs.length (nth il n).fArgs.c j.2, own 34 (nth bl q).fIns.A (nth bl q).fIns.xs.length (nth bl q).fIns.c il, star (((nth bl q).fIns.xs.drop (n + 1)).map fun i => rowP i.fArgs), waysP (nth bl q).fEnd.fWays, var 44 b8 (nth bl q), own 44 (nth fl k).fBlocks.A (nth fl k).fBlocks.xs.length (nth fl k).fBlocks.c bl, star (((nth fl k).fBlocks.xs.drop (q + 1)).map blkP), own 47 c.fFuncs.A c.fFuncs.xs.length c.fFuncs.c fl, star ((c.fFuncs.xs.drop (k + 1)).map funP), var 26 b4 c, var 26 b1 p])
      (fun j => j.1 ≤ (nth il n).fArgs.xs.length) (fun j => (nth il n).fArgs.xs.length - j.1) (0, (nth il n).fArgs.xs) (by repeat (first | exact trivial | refine ⟨rfl, ?_⟩)) (Nat.zero_le _) (PSub.take [0, 1, 0, 0, 0, 0, 0, 0, 0, 0, 0] rfl) ?_
    rintro g ⟨j, xs⟩ hj
    dsimp only at hj ⊢
    (repeat' (first | refine s_nil ?_ | (refine k_C ?_; first | refine s_seq ?_ | refine s_region ?_) | (refine k_E ?_; refine e_seq ?_) | (refine k_bin ?_; refine s_lss rfl rfl ?_)))
    (first | (refine k_C ?_; (refine s_ifd rfl ?_ ?_ <;> intro hc <;> try (exfalso; omega))))
    · have hjn : j < (nth il n).fArgs.xs.length := by omega
      (repeat' (first | refine s_move ?_ | refine s_assign ?_ | refine s_nil ?_ | (refine k_C ?_; first | refine s_seq ?_ | refine s_region ?_ | refine s_skip ?_ | refine s_block ?_) | (refine k_E ?_; first | refine e_seq ?_ | refine e_bk ?_) | (refine k_load ?_; first | refine s_ldB rfl rfl ?_ | refine s_ldF rfl om rfl ?_) | (refine k_bin ?_; refine s_add1 rfl rfl om ?_) | (refine k_fld ?_; first | refine s_fld rfl ?_ | refine s_fldB rfl ?_) | (refine k_idx ?_; refine s_idx rfl rfl om ?_) | (refine k_store ?_; refine s_st _ rfl rfl om ?_)))
      exact e_lp (j + 1, xs.set j (-1)) (by repeat (first | exact trivial | refine ⟨rfl, ?_⟩)) (by show j + 1 ≤ _; omega) (by show _ - _ < _ - _; omega) PSub.refl
    (repeat' (first | refine s_move ?_ | (refine k_C ?_; first | refine s_region ?_ | refine s_exit ?_) | (refine k_E ?_; first | refine e_seq ?_ | refine e_seq_exit ?_ | refine e_bk_exit ?_ | refine e_lp_exit ?_) | (refine k_load ?_; refine s_ldB rfl rfl ?_) | (refine k_fld ?_; first | refine s_fld rfl ?_ | refine s_fldB rfl ?_) | (refine k_idx ?_; refine s_idx rfl rfl om ?_)))
    refine s_stF (⟨(nth il n).fOp, -1, (nth il n).fArgs, (nth il n).fNum, (nth il n).fBin, (nth il n).fArr, (nth il n).fFn⟩ : SsaIns) rfl rfl (by rfl) (by decide) (by omega) ?_
    (repeat' (first | refine s_move ?_ | refine s_nil ?_ | (refine k_C ?_; refine s_region ?_) | (refine k_E ?_; first | refine e_seq ?_ | refine e_bk ?_) | (refine k_bin ?_; refine s_add1 rfl rfl om ?_)))
    exact e_lp (n + 1, il.set n ⟨(nth il n).fOp, -1, (nth il n).fArgs, (nth il n).fNum, (nth il n).fBin, (nth il n).fArr, (nth il n).fFn⟩) (by repeat (first | exact trivial | refine ⟨rfl, ?_⟩)) ⟨by show n + 1 ≤ _; omega, fun m hm => (nth_set_ge hm).trans (his m (by have : n + 1 ≤ m := hm; omega))⟩ (by show _ - _ < _ - _; omega) (PSub.take [1, 1, 1, 1, 1, 1, 1, 1, 1, 1] rfl)
  (repeat' (first | refine s_move ?_ | refine s_nil ?_ | (refine k_C ?_; first | refine s_seq ?_ | refine s_region ?_ | refine s_block ?_ | refine s_exit ?_) | (refine k_E ?_; first | refine e_seq ?_ | refine e_seq_exit ?_ | refine e_bk_exit ?_ | refine e_lp_exit ?_) | (refine k_load ?_; refine s_ldB rfl rfl ?_) | (refine k_fld ?_; refine s_fldB rfl ?_) | (refine k_call ?_; refine s_len rfl ?_)))
  refine s_loop (σ := Nat × List SsaEdge) (fun j => [(1, .pointer (some ⟨b1, 0, none⟩)), (3, .int .i64 was), (4, .pointer (some ⟨b4, 0, none⟩)), (41, .int .i64 c.fFuncs.xs.length), (42, .int .i64 (k : Nat)), (6, .int .i64 (k : Nat)), (51, .int .i64 (nth fl k).fBlocks.xs.length), (52, .int .i64 (q : Nat)), (7, .int .i64 (q : Nat)), (8, .pointer (some ⟨b8, 0, none⟩)), (109, .int .i64 (nth bl q).fEnd.fWays.xs.length), (110, .int .i64 (j.1 : Nat))])
    (fun j => [own 38 (nth bl q).fEnd.fWays.A (nth bl q).fEnd.fWays.xs.length (nth bl q).fEnd.fWays.c j.2, star (((nth bl q).fEnd.fWays.xs.drop j.1).map fun i => rowP i.fArgs), var 44 b8 (nth bl q), own 44 (nth fl k).fBlocks.A (nth fl k).fBlocks.xs.length (nth fl k).fBlocks.c bl, star (((nth fl k).fBlocks.xs.drop (q + 1)).map blkP), own 47 c.fFuncs.A c.fFuncs.xs.length c.fFuncs.c fl, star ((c.fFuncs.xs.drop (k + 1)).map funP), var 26 b4 c, var 26 b1 p])
    (fun j => j.1 ≤ (nth bl q).fEnd.fWays.xs.length ∧ ∀ m, j.1 ≤ m → nth j.2 m = nth (nth bl q).fEnd.fWays.xs m) (fun j => (nth bl q).fEnd.fWays.xs.length - j.1) (0, (nth bl q).fEnd.fWays.xs) (by repeat (first | exact trivial | refine ⟨rfl, ?_⟩)) ⟨Nat.zero_le _, fun _ _ => rfl⟩ ((PSub.take [2, 2, 2, 2, 2, 2, 2, 2] rfl).trans (PSub.un2 : PSub w0 f0 (waysP (nth bl q).fEnd.fWays :: [var 44 b8 (nth bl q), own 44 (nth fl k).fBlocks.A (nth fl k).fBlocks.xs.length (nth fl k).fBlocks.c bl, star (((nth fl k).fBlocks.xs.drop (q + 1)).map blkP), own 47 c.fFuncs.A c.fFuncs.xs.length c.fFuncs.c fl, star ((c.fFuncs.xs.drop (k + 1)).map funP), var 26 b4 c, var 26 b1 p]) _)) ?_
  rintro g ⟨n, wl⟩ ⟨hn, hws⟩
  dsimp only at hn hws ⊢
  (repeat' (first | refine s_nil ?_ | (refine k_C ?_; first | refine s_seq ?_ | refine s_region ?_) | (refine k_E ?_; refine e_seq ?_) | (refine k_bin ?_; refine s_lss rfl rfl ?_)))
  (first | (refine k_C ?_; (refine s_ifd rfl ?_ ?_ <;> intro hc <;> try (exfalso; omega))))
  · have hnn : n < (nth bl q).fEnd.fWays.xs.length := by omega
    have hi0 : nth (nth bl q).fEnd.fWays.xs n = nth wl n := (hws n (Nat.le_refl _)).symm
    refine s_sub (L' := [own 3 (nth wl n).fArgs.A (nth wl n).fArgs.xs.length (nth wl n).fArgs.c (nth wl n).fArgs.xs, star (((nth bl q).fEnd.fWays.xs.drop (n + 1)).map fun i => rowP i.fArgs), own 38 (nth bl q).fEnd.fWays.A (nth bl q).fEnd.fWays.xs.length (nth bl q).fEnd.fWays.c wl, var 44 b8 (nth bl q), own 44 (nth fl k).fBlocks.A (nth fl k).fBlocks.xs.length (nth fl k).fBlocks.c bl, star (((nth fl k).fBlocks.xs.drop (q + 1)).map blkP), own 47 c.fFuncs.A c.fFuncs.xs.length c.fFuncs.c fl, star ((c.fFuncs.xs.drop (k + 1)).map funP), var 26 b4 c, var 26 b1 p]) ((PSub.take [1, 0, 0, 0, 0, 0, 0, 0, 0] rfl).trans ((PSub.starDrop hnn).trans (PSub.eq (by rw [hi0]; rfl)))) ?_
    (repeat' (first | refine s_move ?_ | refine s_assign ?_ | refine s_nil ?_ | (refine k_C ?_; first | refine s_seq ?_ | refine s_region ?_ | refine s_skip ?_ | refine s_block ?_) | (refine k_E ?_; refine e_seq ?_) | (refine k_load ?_; first | refine s_ldB rfl rfl ?_ | refine s_ldF rfl om rfl ?_) | (refine k_fld ?_; first | refine s_fld rfl ?_ | refine s_fldB rfl ?_) | (refine k_idx ?_; refine s_idx rfl rfl om ?_) | (refine k_call ?_; refine s_len rfl ?_)))
    refine s_lenO (nth wl n).fArgs.A fun hp1 hp2 hp3 => ?_
    simp only [maxLen] at hp3
    refine s_loop (σ := Nat × List Int) (fun j => [(1, .pointer (some ⟨b1, 0, none⟩)), (3, .int .i64 was), (4, .pointer (some ⟨b4, 0, none⟩)), (41, .int .i64 c.fFuncs.xs.length), (42, .int .i64 (k : Nat)), (6, .int .i64 (k : Nat)), (51, .int .i64 (nth fl k).fBlocks.xs.length), (52, .int .i64 (q : Nat)), (7, .int .i64 (q : Nat)), (8, .pointer (some ⟨b8, 0, none⟩)), (109, .int .i64 (nth bl q).fEnd.fWays.xs.length), (110, .int .i64 (n : Nat)), (12, .int .i64 (n : Nat)), (120, .int .i64 (nth wl n).fArgs.xs.length), (121, .int .i64 (j.1 : Nat))])
      (fun j => [own 3 (nth wl n).fArgs.A (nth wl n).fArgs.xs.length (nth wl n).fArgs.c j.2, own 38 (nth bl q).fEnd.fWays.A (nth bl q).fEnd.fWays.xs.length (nth bl q).fEnd.fWays.c wl, star (((nth bl q).fEnd.fWays.xs.drop (n + 1)).map fun i => rowP i.fArgs), var 44 b8 (nth bl q), own 44 (nth fl k).fBlocks.A (nth fl k).fBlocks.xs.length (nth fl k).fBlocks.c bl, star (((nth fl k).fBlocks.xs.drop (q + 1)).map blkP), own 47 c.fFuncs.A c.fFuncs.xs.length c.fFuncs.c fl, star ((c.fFuncs.xs.drop (k + 1)).map funP), var 26 b4 c, var 26 b1 p])
      (fun j => j.1 ≤ (nth wl n).fArgs.xs.length) (fun j => (nth wl n).fArgs.xs.length - j.1) (0, (nth wl n).fArgs.xs) (by repeat (first | exact trivial | refine ⟨rfl, ?_⟩)) (Nat.zero_le _) (PSub.take [0, 1, 0, 0, 0, 0, 0, 0, 0, 0] rfl) ?_
    rintro g ⟨j, xs⟩ hj
    dsimp only at hj ⊢
    (repeat' (first | refine s_nil ?_ | (refine k_C ?_; first | refine s_seq ?_ | refine s_region ?_) | (refine k_E ?_; refine e_seq ?_) | (refine k_bin ?_; refine s_lss rfl rfl ?_)))
    (first | (refine k_C ?_; (refine s_ifd rfl ?_ ?_ <;> intro hc <;> try (exfalso; omega))))
    · have hjn : j < (nth wl n).fArgs.xs.length := by omega
      (repeat' (first | refine s_move ?_ | refine s_assign ?_ | refine s_nil ?_ | (refine k_C ?_; first | refine s_seq ?_ | refine s_region ?_ | refine s_skip ?_ | refine s_block ?_) | (refine k_E ?_; first | refine e_seq ?_ | refine e_bk ?_) | (refine k_load ?_; first | refine s_ldB rfl rfl ?_ | refine s_ldF rfl om rfl ?_) | (refine k_bin ?_; refine s_add1 rfl rfl om ?_) | (refine k_fld ?_; first | refine s_fld rfl ?_ | refine s_fldB rfl ?_) | (refine k_idx ?_; refine s_idx rfl rfl om ?_) | (refine k_store ?_; refine s_st _ rfl rfl om ?_)))
      exact e_lp (j + 1, xs.set j (-1)) (by repeat (first | exact trivial | refine ⟨rfl, ?_⟩)) (by show j + 1 ≤ _; omega) (by show _ - _ < _ - _; omega) PSub.refl
    (repeat' (first | refine s_move ?_ | (refine k_C ?_; first | refine s_region ?_ | refine s_exit ?_) | (refine k_E ?_; first | refine e_seq ?_ | refine e_seq_exit ?_ | refine e_bk_exit ?_ | refine e_lp_exit ?_) | (refine k_load ?_; refine s_ldB rfl rfl ?_) | (refine k_fld ?_; first | refine s_fld rfl ?_ | refine s_fldB rfl ?_) | (refine k_idx ?_; refine s_idx rfl rfl om ?_)))
    refine s_stF (⟨-1, (nth wl n).fArgs⟩ : SsaEdge) rfl rfl (by rfl) (by decide) (by omega) ?_
    (repeat' (first | refine s_move ?_ | refine s_nil ?_ | (refine k_C ?_; refine s_region ?_) | (refine k_E ?_; first | refine e_seq ?_ | refine e_bk ?_) | (refine k_bin ?_; refine s_add1 rfl rfl om ?_)))
    exact e_lp (n + 1, wl.set n ⟨-1, (nth wl n).fArgs⟩) (by repeat (first | exact trivial | refine ⟨rfl, ?_⟩)) ⟨by show n + 1 ≤ _; omega, fun m hm => (nth_set_ge hm).trans (hws m (by have : n + 1 ≤ m := hm; omega))⟩ (by show _ - _ < _ - _; omega) (PSub.take [1, 1, 1, 1, 1, 1, 1, 1, 1] rfl)
  (repeat' (first | refine s_move ?_ | (refine k_C ?_; first | refine s_region ?_ | refine s_exit ?_) | (refine k_E ?_; first | refine e_seq ?_ | refine e_seq_exit ?_ | refine e_bk_exit ?_ | refine e_lp_exit ?_) | (refine k_load ?_; first | refine s_ldB rfl rfl ?_ | refine s_ldF rfl om rfl ?_) | (refine k_fld ?_; first | refine s_fld rfl ?_ | refine s_fldB rfl ?_) | (refine k_idx ?_; refine s_idx rfl rfl om ?_)))
  refine s_stF (o := 3) (j := q) (⟨(nth bl q).fParams, (nth bl q).fIns, ⟨(nth bl q).fEnd.fKind, -1, (nth bl q).fEnd.fWays, (nth bl q).fEnd.fTrap⟩⟩ : SsaBlock) rfl rfl (by rfl) (by decide) (by omega) ?_
  (repeat' (first | refine s_move ?_ | refine s_nil ?_ | (refine k_C ?_; refine s_region ?_) | (refine k_E ?_; first | refine e_seq ?_ | refine e_bk ?_) | (refine k_bin ?_; refine s_add1 rfl rfl om ?_)))
  exact e_lp (q + 1, bl.set q ⟨(nth bl q).fParams, (nth bl q).fIns, ⟨(nth bl q).fEnd.fKind, -1, (nth bl q).fEnd.fWays, (nth bl q).fEnd.fTrap⟩⟩) (by repeat (first | exact trivial | refine ⟨rfl, ?_⟩)) ⟨by show q + 1 ≤ _; omega, fun m hm => (nth_set_ge hm).trans (hbs m (by have : q + 1 ≤ m := hm; omega))⟩ (by show _ - _ < _ - _; omega) (PSub.take [3, 3, 3, 3, 3, 3] rfl)
end Go.Proofs.Ytboicgdblbfbeaa
