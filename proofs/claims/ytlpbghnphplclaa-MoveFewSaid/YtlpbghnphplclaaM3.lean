/- The walks: slices.DeleteFunc, slices.Delete. -/
import Derived.Test.YtlpbghnphplclaaM2
namespace Go.Proofs.Ytlpbghnphplclaa
set_option linter.unusedVariables false
set_option linter.unusedSimpArgs false
open Go Go.RowKit

theorem mvs_set (xs : List Mv) : ∀ (j : Nat) (m : Mv), j < xs.length → lay (mvs xs) (j * 2) m.cells = mvs (xs.set j m) := by
  intro j m hj
  unfold lay
  have e1 : (mvs xs).drop (j * 2 + m.cells.length) = mvs (xs.drop (j + 1)) := by
    rw [← mvs_drop]; congr 1; simp [Mv.cells]; omega
  rw [mvs_take, e1, List.set_eq_take_append_cons_drop, if_pos hj, mvs_app]
  simp [mvs]

def PureA (g : FuncId) (cap : List Value) (p : Mv → Bool) : Prop :=
  ∀ (w : World) (m : Mv), CallsV Try.prog g ([m.val] ++ cap).toArray w fun v w2 => v = .bool (p m) ∧ Step w (fun _ => False) w2

theorem idx_neg {p : Mv → Bool} {xs : List Mv} : idx p xs = -1 ↔ ∀ m ∈ xs, p m = false := by
  unfold idx
  cases h : xs.findIdx? p with
  | none => rw [List.findIdx?_eq_none_iff] at h; simpa using h
  | some i =>
    rw [List.findIdx?_eq_some_iff_getElem] at h
    obtain ⟨hl, hp, _⟩ := h
    constructor
    · intro h'; simp at h'
    · intro h'; have := h' _ (List.getElem_mem hl); rw [this] at hp; cases hp
theorem idx_cases (p : Mv → Bool) (xs : List Mv) : idx p xs = -1 ∨ ∃ i m, idx p xs = (i : Nat) ∧ xs[i]? = some m ∧ p m = true ∧ ∀ x ∈ xs.take i, p x = false := by
  unfold idx
  cases h : xs.findIdx? p with
  | none => exact .inl rfl
  | some i =>
    rw [List.findIdx?_eq_some_iff_getElem] at h
    obtain ⟨hl, hp, ho⟩ := h
    refine .inr ⟨i, xs[i], rfl, List.getElem?_eq_getElem hl, hp, fun x hx => ?_⟩
    obtain ⟨j, hj⟩ := List.getElem?_of_mem hx
    have hji : j < i := by have := (List.getElem?_eq_some_iff.1 hj).1; simp at this; omega
    rw [List.getElem?_take_of_lt hji] at hj
    have := ho j hji
    obtain ⟨_, he⟩ := List.getElem?_eq_some_iff.1 hj
    rw [he] at this; simpa using this

theorem lay_end (cs : List Value) (o : Nat) (vs : List Value) (h : o + vs.length = cs.length) : (lay cs o vs).take o = cs.take o := by
  unfold lay
  rw [List.append_assoc, List.take_append_of_le_length (by simp; omega), List.take_take, Nat.min_self]

theorem deleteFunc_any {g : FuncId} {fn : Func} (hF : IsF Try.prog g fn) {A : Option Addr} {c : Nat} {xs : List Mv} {p : Mv → Bool} (hp : PureA g [] p) (w : World) (f0 : FP) (H : St w f0 [row A xs.length c 29 2 (mvs xs)] w) :
    CallsV Try.prog 10 #[.slice A xs.length c, .func (.func g) #[] #[]] w fun v w' => ∃ A' c', v = .slice A' (xs.filter (!p ·)).length c' ∧ St w f0 [row A' (xs.filter (!p ·)).length c' 29 2 (mvs (xs.filter (!p ·)))] w' := by
  have hm : xs.length ≤ 9223372036854775807 := by
    obtain ⟨f1, hA, _⟩ := H.focus 0 rfl
    have := row.len hA; simp only [maxLen] at this; omega
  refine calls_of (args := [.slice A xs.length c, .func (.func g) #[] #[]]) Try.func10 rfl rfl rfl rfl ?_
  repeat refine wC_seq ?_
  refine wC_region ?_
  refine o_assign ?_
  refine o_nil ?_
  repeat refine wC_seq ?_
  refine wC_region ?_
  refine o_move ?_
  refine o_move ?_
  refine o_callF F_13 rfl (index_any (cap := []) hF w (H.rdR 0 rfl) (fun w1 _ m => hp w1 m)) ?_
  rintro v w1 ⟨rfl, hs⟩
  have H := H.idle hs
  refine o_assign ?_
  refine o_nil ?_
  repeat refine wC_seq ?_
  refine wC_region ?_
  refine o_move ?_
  rcases idx_cases p xs with hi | ⟨i, mi, hi, hmi, hpi, hlo⟩
  · rw [hi]
    refine o_eql true rfl rfl rfl ?_
    refine o_nil ?_
    repeat refine wC_seq ?_
    refine wC_if true rfl ?_
    repeat refine wC_seq ?_
    refine wC_region ?_
    refine o_move ?_
    refine o_assign ?_
    refine o_nil ?_
    refine wC_ret ?_
    have : xs.filter (!p ·) = xs := List.filter_eq_self.2 fun m hm => by rw [idx_neg.1 hi m hm]; rfl
    rw [this]
    exact ⟨A, c, rfl, H⟩
  · rw [hi]
    refine o_eql false rfl rfl (by simp) ?_
    refine o_nil ?_
    repeat refine wC_seq ?_
    refine wC_if false rfl ?_
    refine wC_skip ?_
    have hil : i < xs.length := (List.getElem?_eq_some_iff.1 hmi).1
    repeat refine wC_seq ?_
    refine wC_region ?_
    refine o_move ?_
    refine o_add64 rfl rfl (by omega) ?_
    refine o_assign ?_
    refine o_nil ?_
    have hA : ∃ a, A = some a := by
      obtain ⟨f1, hA, _⟩ := H.focus 0 rfl
      obtain ⟨a, h, _⟩ := row.adr hA (by omega)
      exact ⟨a, h⟩
    obtain ⟨a, rfl⟩ := hA
    refine wC_block ?_
    refine wC_loop (σ := Nat × Nat × List Mv) (fun s => [(0, .slice (some a) xs.length c), (1, .func (.func g) #[] #[]), (5, .int .i64 (s.1 : Nat)), (6, .int .i64 (s.2.1 : Nat))])
      (fun s w' => s.1 < s.2.1 ∧ s.2.1 ≤ xs.length ∧ s.2.2.length = xs.length ∧ s.2.2.take s.1 = (xs.take s.2.1).filter (!p ·) ∧ s.2.2.drop s.2.1 = xs.drop s.2.1 ∧ St w f0 [row (some a) xs.length c 29 2 (mvs s.2.2)] w') (fun s => xs.length - s.2.1)
      (i, i + 1, xs) ⟨rfl, rfl, rfl, rfl, trivial⟩ ⟨by simp, hil, rfl, ?_, rfl, H⟩ ?_
    · show xs.take i = _
      obtain ⟨_, he⟩ := List.getElem?_eq_some_iff.1 hmi
      rw [List.take_succ_eq_append_getElem hil, List.filter_append, he]
      simp [hpi]
      exact (List.filter_eq_self.2 fun x hx => by rw [hlo x hx]; rfl).symm
    rintro f ⟨i, j, ys⟩ w1 ⟨hij, hjl, hyl, hyt, hyd, H⟩
    simp only at hij hjl hyl hyt hyd H ⊢
    repeat refine wC_seq ?_
    refine wC_region ?_
    refine o_move ?_
    refine o_move ?_
    refine o_len U_22 rfl ?_
    by_cases hlt : j < xs.length
    · refine o_lss true rfl rfl (by simp; omega) ?_
      refine o_nil ?_
      repeat refine wC_seq ?_
      refine wC_if true rfl ?_
      refine wC_skip ?_
      repeat refine wC_seq ?_
      refine wC_block ?_
      repeat refine wC_seq ?_
      refine wC_region ?_
      refine o_move ?_
      refine o_move ?_
      refine o_idxR U_22 TI_29 H 0 rfl rfl rfl (by omega) (by omega) ?_
      rintro a' ha hsp
      cases ha
      obtain ⟨m, hm0⟩ : ∃ m, ys[j]? = some m := ⟨_, List.getElem?_eq_getElem (by omega)⟩
      have hxm : xs[j]? = some m := by
        have := congrArg (fun l => l[0]?) hyd
        simpa [hm0] using this.symm
      refine o_ldRA TA_29 H 0 rfl (j * 2) rfl (by rw [mvs_len]; omega) ?_
      rw [mvs_at hm0]
      refine o_alloc TI_29.zero H ?_; intro b w H
      refine o_stB (v := m.val) TI_29.size H 1 rfl rfl rfl (by show 0 + 2 ≤ 2; omega) (by simp [Mv.val, Value.cells, Value.oneCell']) ?_; intro w H
      refine o_nil ?_
      repeat refine wC_seq ?_
      refine wC_region ?_
      refine o_move ?_
      refine o_ldBA TA_29 H 1 rfl (o := 0) rfl (by show 0 + 2 ≤ 2; omega) ?_
      refine o_callV (captured := []) rfl hF (vs := [m.val]) rfl (hp w m) ?_
      rintro v w2 ⟨rfl, hs⟩
      have H := H.idle hs
      refine o_not _ rfl ?_
      refine o_nil ?_
      cases hpm : p m with
      | false =>
        refine wC_if true rfl ?_
        repeat refine wC_seq ?_
        refine wC_region ?_
        refine o_move ?_
        refine o_move ?_
        refine o_ldBA TA_29 H 1 rfl (o := 0) rfl (by show 0 + 2 ≤ 2; omega) ?_
        refine o_idxR U_22 TI_29 H 0 rfl rfl rfl (by omega) (by omega) ?_
        rintro a' ha hsp
        cases ha
        refine o_stR (v := m.val) TI_29.size H 0 rfl (i * 2) rfl rfl (by rw [mvs_len]; show i * 2 + 2 ≤ _; omega) (by simp [Mv.val, Value.cells, Value.oneCell']) ?_; intro w H
        refine o_nil ?_
        refine wC_region ?_
        refine o_move ?_
        refine o_add64 rfl rfl (by omega) ?_
        refine o_assign ?_
        refine o_nil ?_
        refine wC_region ?_
        refine o_move ?_
        refine o_add64 rfl rfl (by omega) ?_
        refine o_assign ?_
        refine o_nil ?_
        refine ⟨(i + 1, j + 1, ys.set i m), ⟨rfl, rfl, rfl, rfl, trivial⟩, ⟨by simp; omega, by simp; omega, by simp [hyl], ?_, ?_, ?_⟩, by show xs.length - (j + 1) < xs.length - j; omega⟩
        · show (ys.set i m).take (i + 1) = (xs.take (j + 1)).filter (!p ·)
          rw [List.take_succ_eq_append_getElem (by simp; omega), List.take_set_of_le (by omega), hyt]
          have hj' : j < xs.length := hlt
          obtain ⟨_, he⟩ := List.getElem?_eq_some_iff.1 hxm
          rw [List.take_succ_eq_append_getElem hj', List.filter_append, he]
          simp [hpm]
        · show (ys.set i m).drop (j + 1) = xs.drop (j + 1)
          rw [List.drop_set_of_lt (by omega)]
          have := congrArg (List.drop 1) hyd
          simpa using this
        · have := H.drop 1
          have e : lay (mvs ys) (i * 2) m.val.cells.toList = mvs (ys.set i m) := mvs_set ys i m (by omega)
          rw [← e]
          exact this
      | true =>
        refine wC_if false rfl ?_
        refine wC_skip ?_
        refine wC_region ?_
        refine o_move ?_
        refine o_add64 rfl rfl (by omega) ?_
        refine o_assign ?_
        refine o_nil ?_
        refine ⟨(i, j + 1, ys), ⟨rfl, rfl, rfl, rfl, trivial⟩, ⟨by simp; omega, by simp; omega, hyl, ?_, ?_, H.drop 1⟩, by show xs.length - (j + 1) < xs.length - j; omega⟩
        · show ys.take i = (xs.take (j + 1)).filter (!p ·)
          obtain ⟨_, he⟩ := List.getElem?_eq_some_iff.1 hxm
          rw [hyt, List.take_succ_eq_append_getElem hlt, List.filter_append, he]
          simp [hpm]
        · show ys.drop (j + 1) = xs.drop (j + 1)
          have := congrArg (List.drop 1) hyd
          simpa using this
    · refine o_lss false rfl rfl (by simp; omega) ?_
      refine o_nil ?_
      repeat refine wC_seq ?_
      refine wC_if false rfl ?_
      refine wC_exit ?_
      obtain rfl : j = xs.length := by omega
      repeat refine wC_seq ?_
      refine wC_region ?_
      refine o_move ?_
      refine o_move ?_
      refine o_cutL U_22 TI_29 rfl rfl (by omega) (by omega) ?_
      refine o_clearR U_22 TI_29 H 0 rfl i (xs.length - i) (by omega) rfl ?_ (by simp [Value.cells, Value.oneCell']) ?_
      · have hc : xs.length ≤ c := by
          obtain ⟨f1, hA, _⟩ := H.focus 0 rfl
          exact (row.len hA).2.1
        refine .inr ?_
        rw [if_neg (by omega)]; rfl
      intro w H
      refine o_nil ?_
      repeat refine wC_seq ?_
      refine wC_region ?_
      refine o_move ?_
      refine o_move ?_
      have hc : xs.length ≤ c := by
        obtain ⟨f1, hA, _⟩ := H.focus 0 rfl
        exact (row.len hA).2.1
      refine o_cutH U_22 TI_29 rfl rfl (by omega) (by omega) ?_
      refine o_assign ?_
      refine o_nil ?_
      refine wC_ret ?_
      have hx : ys.take i = xs.filter (!p ·) := by rw [hyt, List.take_length]
      have hl : (xs.filter (!p ·)).length = i := by rw [← hx]; simp; omega
      rw [hl]
      refine ⟨some a, c, rfl, ?_⟩
      have := H.turn 0 rfl (A' := row (some a) i c 29 2 (mvs (xs.filter (!p ·)))) fun g hg => by
        have h2 := row.cutH hg i (by omega)
        rw [lay_end _ _ _ (by rw [mvs_len]; simp [Value.cells]; omega), mvs_take, hx] at h2
        exact h2
      exact this
theorem fo : Try.prog.follows .mixedOrders = true := by kernel_rfl
theorem tail5 (l : List Oper) (k : Nat) (h : Region.lexTailB .any l.toArray k = true) : Region.lexTailB .any l.toArray k = true := h

theorem delete_any {A : Option Addr} {c : Nat} {xs : List Mv} {i : Nat} (hi : i < xs.length) (w : World) (f0 : FP) (H : St w f0 [row A xs.length c 29 2 (mvs xs)] w) :
    CallsV Try.prog 16 #[.slice A xs.length c, .int .i64 (i : Nat), .int .i64 ((i + 1 : Nat) : Int)] w fun v w' => ∃ A' c', v = .slice A' (xs.length - 1) c' ∧ St w f0 [row A' (xs.length - 1) c' 29 2 (mvs (xs.eraseIdx i))] w' := by
  obtain ⟨hc, hm⟩ : xs.length ≤ c ∧ c ≤ 9223372036854775807 := by
    obtain ⟨f1, hA, _⟩ := H.focus 0 rfl
    have := row.len hA; simp only [maxLen] at this; exact this.2
  have hA : ∃ a, A = some a := by
    obtain ⟨f1, hA, _⟩ := H.focus 0 rfl
    obtain ⟨a, h, _⟩ := row.adr hA (by omega)
    exact ⟨a, h⟩
  obtain ⟨a, rfl⟩ := hA
  refine calls_of (args := [.slice (some a) xs.length c, .int .i64 (i : Nat), .int .i64 ((i + 1 : Nat) : Int)]) Try.func16 rfl rfl rfl rfl ?_
  repeat refine wC_seq ?_
  refine wC_region ?_
  refine o_assign ?_
  refine o_nil ?_
  repeat refine wC_seq ?_
  refine wC_region ?_
  refine o_move ?_
  refine o_move ?_
  refine o_move ?_
  refine o_move ?_
  refine o_len U_22 rfl ?_
  refine o_cut3 U_22 TI_29 rfl rfl rfl rfl (by omega) (by omega) (by omega) (by omega) ?_
  refine o_nil ?_
  repeat refine wC_seq ?_
  refine wC_region ?_
  refine o_move ?_
  refine o_move ?_
  refine o_eql false rfl rfl (by simp; omega) ?_
  refine o_nil ?_
  repeat refine wC_seq ?_
  refine wC_if false rfl ?_
  refine wC_skip ?_
  repeat refine wC_seq ?_
  refine wC_region ?_
  refine o_move ?_
  refine o_len U_22 rfl ?_
  refine o_assign ?_
  refine o_nil ?_
  repeat refine wC_seq ?_
  refine wC_tail 6 fo (by kernel_rfl) ?_
  have H := H.idle (Step.drew w (fun _ => False))
  refine o_move ?_
  refine o_move ?_
  refine o_cutH U_22 TI_29 rfl rfl (by omega) (by omega) ?_
  refine o_move ?_
  refine o_move ?_
  refine o_cutL U_22 TI_29 rfl rfl (by omega) (by omega) ?_
  refine o_nil ?_
  refine o_appIn U_22 TI_29 H 0 rfl i (i + 1) (by omega) (by omega) (mvs_one xs) rfl rfl ?_; intro w1 H
  refine o_assign ?_
  refine o_nil ?_
  repeat refine wC_seq ?_
  refine wC_region ?_
  refine o_move ?_
  refine o_move ?_
  refine o_len U_22 rfl ?_
  refine o_move ?_
  refine o_cutLH U_22 TI_29 rfl rfl rfl (by omega) (by omega) (by omega) ?_
  refine o_clearR U_22 TI_29 H 0 rfl (i + (xs.length - (i + 1))) (xs.length - (i + (xs.length - (i + 1)))) (by omega) rfl ?_ (by simp [Value.cells, Value.oneCell']) ?_
  · refine .inr ?_
    rw [if_neg (by omega)]; rfl
  intro w1 H
  refine o_nil ?_
  repeat refine wC_seq ?_
  refine wC_region ?_
  refine o_move ?_
  refine o_assign ?_
  refine o_nil ?_
  refine wC_ret ?_
  have hl : i + (xs.length - (i + 1)) = xs.length - 1 := by omega
  rw [hl] at H
  refine ⟨some a, c, congrArg (fun n => Value.slice (some a) n c) hl, ?_⟩
  have := H.turn 0 rfl (A' := row (some a) (xs.length - 1) c 29 2 (mvs (xs.eraseIdx i))) fun g hg => by
    have h2 := row.cutH hg (xs.length - 1) (by omega)
    have e1 : (lay (mvs xs) (i * 2) ((mvs xs).drop ((i + 1) * 2))).length = xs.length * 2 := by
      simp [lay, mvs_len]; omega
    have e2 : (lay (mvs xs) (i * 2) ((mvs xs).drop ((i + 1) * 2))).take ((xs.length - 1) * 2) = mvs (xs.eraseIdx i) := by
      unfold lay
      rw [mvs_take, mvs_drop, ← mvs_app, List.eraseIdx_eq_take_drop_succ, List.take_append_of_le_length (by rw [mvs_len]; simp; omega), List.take_of_length_le]
      rw [mvs_len]; simp; omega
    rw [lay_end _ _ _ (by rw [e1]; simp [Value.cells]; omega), e2] at h2
    exact h2
  exact this

end Go.Proofs.Ytlpbghnphplclaa
