/- The walks: Do. -/
import Derived.Test.YtlpbghnphplclaaM4
namespace Go.Proofs.Ytlpbghnphplclaa
set_option linter.unusedVariables false
set_option linter.unusedSimpArgs false
open Go Go.RowKit

noncomputable abbrev E2 : EK Try.prog 2 Int := ekInt U_2
abbrev St8 := Int → Option Int
def doOf (xs : List Mv) (F : St8) : St8 := xs.foldl (fun F m => upd F m.to (some ((F m.fr).getD 0))) F
def wfm (m : Mv) : Prop := wfi m.to ∧ wfi m.fr

theorem do_any {A : Option Addr} {c : Nat} {xs : List Mv} {v : Option Nat} {N : Nat} {F : St8} (w0 : World) (hR : RdS (okOf w0 fun _ => False) w0 A xs.length c 2 (mvs xs)) (hM : RdM E2 3 (okOf w0 fun _ => False) w0 v N F) (hN : N ≤ 1000000) (hl : xs.length ≤ 100000000) (hw : ∀ m ∈ xs, wfm m) :
    CallsV Try.prog 8 #[.slice A xs.length c, .map v] w0 fun v w' => ∃ b, v = .map (some b) ∧ St w0 (fun _ => False) [mp E2 3 b (N + xs.length) (doOf xs F)] w' := by
  refine calls_of (args := [.slice A xs.length c, .map v]) Try.func8 rfl rfl rfl rfl ?_
  have H := St.begin w0
  repeat refine wC_seq ?_
  refine wC_region ?_
  refine o_assign ?_
  refine o_nil ?_
  repeat refine wC_seq ?_
  refine wC_region ?_
  refine o_mkmap E2 3 H ?_; intro b w H
  refine o_assign ?_
  refine o_nil ?_
  repeat refine wC_seq ?_
  refine wC_region ?_
  refine o_move ?_
  refine o_rangeS (E := E2) U_3 U_23 H hM rfl ?_; intro es clock cnt r w hcnt hAt H
  refine o_nil ?_
  repeat refine wC_seq ?_
  refine wC_block ?_
  refine wC_loop (σ := (Int → Bool) × Nat × Nat) (fun s => [(0, .slice A xs.length c), (5, .map (some b)), (12, .pointer (some ⟨r, 0, none⟩))])
    (fun s w' => s.2.2 + s.2.1 ≤ N ∧ St w0 (fun _ => False) [mp E2 3 b s.2.2 (fun k => if s.1 k = true then none else F k), itr Try.prog 3 2 v r es clock s.1 s.2.1] w') (fun s => s.2.1)
    (fun k => (F k).isSome, cnt, 0) ⟨rfl, rfl, rfl, trivial⟩ ⟨by simp; exact hcnt, ?_⟩ ?_
  · have e : (fun k => if (F k).isSome = true then none else F k) = fun _ => none := by
      funext k; cases h : F k <;> simp
    show St w0 _ [mp E2 3 b 0 (fun k => if (F k).isSome = true then none else F k), _] w
    rw [e]; exact H
  rintro f ⟨todo, cnt, n⟩ w1 ⟨hn, H⟩
  simp only at hn H ⊢
  repeat refine wC_seq ?_
  refine wC_region ?_
  refine o_nextS (E := E2) U_3 H 1 rfl hAt rfl ?_ ?_
  · intro hdone
    refine o_extract rfl rfl ?_
    refine o_nil ?_
    repeat refine wC_seq ?_
    refine wC_if false rfl ?_
    refine wC_exit ?_
    have e : (fun k => if todo k = true then none else F k) = F := by
      funext k
      cases h : F k with
      | none => simp
      | some x => rw [hdone k (by rw [h]; simp)]; simp
    rw [e] at H
    have H := H.drop 1
    repeat refine wC_seq ?_
    refine wC_region ?_
    refine o_move ?_
    refine o_len U_22 rfl ?_
    refine o_move ?_
    refine o_nil ?_
    repeat refine wC_seq ?_
    refine wC_block ?_
    refine wC_loop (σ := Nat) (fun k => [(5, .map (some b)), (21, .slice A xs.length c), (22, .int .i64 xs.length), (23, .int .i64 (k : Nat))])
      (fun k w' => k ≤ xs.length ∧ St w0 (fun _ => False) [mp E2 3 b (N + k) (doOf (xs.take k) F)] w') (fun k => xs.length - k)
      0 ⟨rfl, rfl, rfl, rfl, trivial⟩ ⟨Nat.zero_le _, H.turn 0 rfl fun g hg => ⟨hg.1, hg.2.mono (by omega)⟩⟩ ?_
    rintro f k w2 ⟨hk, H⟩
    repeat refine wC_seq ?_
    refine wC_region ?_
    by_cases hlt : k < xs.length
    · refine o_lss true rfl rfl (by simp; omega) ?_
      refine o_nil ?_
      repeat refine wC_seq ?_
      refine wC_if true rfl ?_
      refine wC_skip ?_
      repeat refine wC_seq ?_
      refine wC_block ?_
      obtain ⟨m, hm⟩ : ∃ m, xs[k]? = some m := ⟨_, List.getElem?_eq_getElem hlt⟩
      obtain ⟨hwt, hwf⟩ := hw m (List.mem_of_getElem? hm)
      repeat refine wC_seq ?_
      refine wC_region ?_
      refine o_idxS U_22 TI_29 hR rfl rfl (by omega) (by omega) ?_
      rintro a rfl hC
      refine o_ldSA TA_29 H hC (k * 2) rfl (by rw [mvs_len]; omega) ?_
      rw [mvs_at hm]
      refine o_alloc TI_29.zero H ?_; intro b9 w H
      refine o_stB (v := m.val) TI_29.size H 1 rfl rfl rfl (Nat.le_refl 2) m.cells_one ?_; intro w H
      refine o_nil ?_
      repeat refine wC_seq ?_
      refine wC_region ?_
      refine o_move ?_
      refine o_fld (fl := fd_29_0) (m := 0) U_29 rfl (T1_3.sz) rfl ?_
      refine o_ldB1 T1_3 H 1 rfl (o := 0) rfl (v := .int .i64 m.to) rfl ?_
      refine o_move ?_
      refine o_fld (fl := fd_29_1) (m := 0) U_29 rfl (T1_3.sz) rfl ?_
      refine o_ldB1 T1_3 H 1 rfl (o := 1) rfl (v := .int .i64 m.fr) rfl ?_
      refine o_look U_3 U_23 TI_2.zero H 0 rfl rfl rfl hwf rfl ?_
      refine o_put U_3 U_23 H 0 rfl rfl rfl rfl hwt (H.goodM 0 rfl m.fr) (by omega) ?_; intro w H
      refine o_nil ?_
      repeat refine wC_seq ?_
      refine wC_region ?_
      refine o_add64 rfl rfl (by omega) ?_
      refine o_move ?_
      refine o_nil ?_
      refine ⟨k + 1, ⟨rfl, rfl, rfl, rfl, trivial⟩, ⟨hlt, ?_⟩, by show xs.length - (k + 1) < xs.length - k; omega⟩
      have e : doOf (xs.take (k + 1)) F = upd (doOf (xs.take k) F) m.to (some ((doOf (xs.take k) F m.fr).getD 0)) := by
        obtain ⟨_, he⟩ := List.getElem?_eq_some_iff.1 hm
        rw [List.take_succ_eq_append_getElem hlt, he]
        simp [doOf, List.foldl_append]
      rw [e]
      exact H.drop 1
    · refine o_lss false rfl rfl (by simp; omega) ?_
      refine o_nil ?_
      repeat refine wC_seq ?_
      refine wC_if false rfl ?_
      refine wC_exit ?_
      repeat refine wC_seq ?_
      refine wC_region ?_
      refine o_move ?_
      refine o_assign ?_
      refine o_nil ?_
      refine wC_ret ?_
      obtain rfl : k = xs.length := by omega
      rw [List.take_length] at H
      exact ⟨b, rfl, H⟩
  · intro k x w' cnt' ⟨hk, hg⟩ htk hFk hlt H hen
    refine o_extract rfl rfl ?_
    refine o_nil ?_
    repeat refine wC_seq ?_
    refine wC_if true rfl ?_
    refine wC_skip ?_
    repeat refine wC_seq ?_
    refine wC_block ?_
    repeat refine wC_seq ?_
    refine wC_region ?_
    refine o_entry rfl hen ?_
    refine o_extract rfl rfl ?_
    refine o_extract rfl rfl ?_
    refine o_assign ?_
    refine o_assign ?_
    refine o_nil ?_
    repeat refine wC_seq ?_
    refine wC_region ?_
    refine o_move ?_
    refine o_move ?_
    refine o_move ?_
    refine o_put (E := E2) (yv := x) U_3 U_23 H 0 rfl rfl rfl rfl hk hg (by omega) ?_; intro w H
    refine o_nil ?_
    refine ⟨(fun j => todo j && j != k, cnt', n + 1), ⟨rfl, rfl, rfl, trivial⟩, ⟨by show n + 1 + cnt' ≤ N; omega, ?_⟩, hlt⟩
    have e : (fun j => if (todo j && j != k) = true then none else F j) = upd (fun j => if todo j = true then none else F j) k (some x) := by
      funext j
      by_cases hj : j = k
      · subst hj; simp [upd_same, hFk]
      · rw [upd_other _ hj]; simp [hj]
    show St w0 _ [mp E2 3 b (n + 1) (fun j => if (todo j && j != k) = true then none else F j), _] w
    rw [e]; exact H
end Go.Proofs.Ytlpbghnphplclaa
