/- The walks: head, once. -/
import Derived.Test.YtlpbghnphplclaaM5
namespace Go.Proofs.Ytlpbghnphplclaa
set_option linter.unusedVariables false
set_option linter.unusedSimpArgs false
open Go Go.RowKit

theorem EG_29 : Try.prog.eqGuardType Try.prog.depth 29 = false := by kernel_rfl
theorem fo29 : Try.prog.underlying 29 = some (.struct (Try.prog.fieldsOf 29)) := by kernel_rfl
theorem eq_29 (m m' : Mv) (w : World) : (Op.equalIn 10000 29 (.agg m.cells.toArray) (.agg m'.cells.toArray)).run Try.prog w = .ok (m == m') w := by
  rw [run_equalIn_struct w 9999 29 m.cells.toArray m'.cells.toArray fo29 (by kernel_rfl)]
  have e : (Try.prog.fieldsOf 29).toList = [fd_29_0, fd_29_1] := by
    unfold Program.fieldsOf; rw [U_29]
  rw [e]
  have n0 : fd_29_0.name ≠ "_" := by decide
  have n1 : fd_29_1.name ≠ "_" := by decide
  obtain ⟨a, b⟩ := m
  obtain ⟨c, d⟩ := m'
  have p0 : ∀ (x y : Int) (w : World), (part fd_29_0.type (⟨x, y⟩ : Mv).cells.toArray fd_29_0.offset).run Try.prog w = .ok (.int .i64 x) w := fun x y w => part1 T1_3 rfl w
  have p1 : ∀ (x y : Int) (w : World), (part fd_29_1.type (⟨x, y⟩ : Mv).cells.toArray fd_29_1.offset).run Try.prog w = .ok (.int .i64 y) w := fun x y w => part1 T1_3 rfl w
  have q : ∀ (x y : Int) (w : World), (Op.equalIn 9999 3 (.int .i64 x) (.int .i64 y)).run Try.prog w = .ok (x == y) w := fun x y w => run_equalIn_int w 9998 3 .i64 .i64 x y U_3
  have q0 : ∀ (x y : Int) (w : World), (Op.equalIn 9999 fd_29_0.type (.int .i64 x) (.int .i64 y)).run Try.prog w = .ok (x == y) w := q
  have q1 : ∀ (x y : Int) (w : World), (Op.equalIn 9999 fd_29_1.type (.int .i64 x) (.int .i64 y)).run Try.prog w = .ok (x == y) w := q
  simp only [Op.eqFields, n0, n1, if_true, ne_eq, not_false_eq_true, Sem.run_bind, p0, p1, q0, q1, Result.andThen_ok]
  have e : ((⟨a, b⟩ : Mv) == ⟨c, d⟩) = (a == c && b == d) := by
    rw [Bool.eq_iff_iff]; simp
  rw [e]
  cases h : a == c <;> cases h' : b == d <;> simp [p1, q1, h, h']

def boxM (m : Mv) : Value := .agg m.cells.toArray

theorem bd (a b : Int) : Try.prog.built 29 [(0, .int .i64 a), (1, .int .i64 b)] = some (⟨a, b⟩ : Mv).cells.toArray := by kernel_rfl

def onceStep (free : Int) (out : List Mv) (m : Mv) : List Mv := if (!(out.any (·.to == m.to)) && m.to != free && m.fr != free) = true then out ++ [m] else out
def onceOf (xs : List Mv) (free : Int) : List Mv := xs.foldl (onceStep free) []
def seenF (out : List Mv) : Int → Option Bool := fun k => if out.any (·.to == k) = true then some true else none
noncomputable abbrev E4 : EK Try.prog 4 Bool := ekBool U_4

theorem onceStep_len (free : Int) (out : List Mv) (m : Mv) : (onceStep free out m).length ≤ out.length + 1 := by unfold onceStep; split <;> simp
theorem once_len (free : Int) (xs : List Mv) : (onceOf xs free).length ≤ xs.length := by
  have : ∀ (xs out : List Mv), (xs.foldl (onceStep free) out).length ≤ out.length + xs.length := by
    intro xs
    induction xs with
    | nil => intro out; simp
    | cons x xs ih => intro out; have := ih (onceStep free out x); have := onceStep_len free out x; simp only [List.foldl_cons, List.length_cons]; omega
  have h := this xs []
  rw [List.length_nil, Nat.zero_add] at h
  exact h
theorem seenF_get (out : List Mv) (k : Int) : (seenF out k).getD false = out.any (·.to == k) := by
  unfold seenF
  split <;> simp_all
theorem seenF_app (out : List Mv) (m : Mv) : seenF (out ++ [m]) = upd (seenF out) m.to (some true) := by
  funext k
  unfold seenF upd
  by_cases h : k = m.to
  · subst h; simp
  · have : (m.to == k) = false := by simp; exact fun e => h e.symm
    rw [if_neg h]
    simp only [List.any_append, List.any_cons, List.any_nil, this, Bool.or_false]

theorem once_any {A : Option Addr} {c : Nat} {xs : List Mv} (free : Int) (w0 : World) (hR : RdS (okOf w0 fun _ => False) w0 A xs.length c 2 (mvs xs)) (hl : xs.length ≤ 60) (hw : ∀ m ∈ xs, wfm m) :
    CallsV Try.prog 7 #[.slice A xs.length c, .int .i64 free] w0 fun v w' => ∃ A' c', v = .slice A' (onceOf xs free).length c' ∧ St w0 (fun _ => False) [row A' (onceOf xs free).length c' 29 2 (mvs (onceOf xs free))] w' := by
  refine calls_of (args := [.slice A xs.length c, .int .i64 free]) Try.func7 rfl rfl rfl rfl ?_
  have H := St.begin w0
  repeat refine wC_seq ?_
  refine wC_region ?_
  refine o_assign ?_
  refine o_nil ?_
  repeat refine wC_seq ?_
  refine wC_region ?_
  refine o_lit (pv := []) (cells := mvs []) U_22 TI_29 (by decide) rfl (fun _ h => by cases h) rfl H ?_; intro b9 w H
  refine o_assign ?_
  refine o_nil ?_
  repeat refine wC_seq ?_
  refine wC_region ?_
  refine o_mkmap E4 3 H ?_; intro b10 w H
  refine o_assign ?_
  refine o_nil ?_
  repeat refine wC_seq ?_
  refine wC_region ?_
  refine o_move ?_
  refine o_len U_22 rfl ?_
  refine o_move ?_
  refine o_nil ?_
  repeat refine wC_seq ?_
  refine wC_block ?_
  refine wC_loop (σ := Nat × Option Addr × Nat) (fun s => [(1, .int .i64 free), (5, .slice s.2.1 (onceOf (xs.take s.1) free).length s.2.2), (6, .map (some b10)), (11, .slice A xs.length c), (12, .int .i64 xs.length), (13, .int .i64 (s.1 : Nat))])
    (fun s w' => s.1 ≤ xs.length ∧ St w0 (fun _ => False) [row s.2.1 (onceOf (xs.take s.1) free).length s.2.2 29 2 (mvs (onceOf (xs.take s.1) free)), mp E4 3 b10 s.1 (seenF (onceOf (xs.take s.1) free))] w') (fun s => xs.length - s.1)
    (0, some ⟨b9, 0, none⟩, 0) ⟨rfl, rfl, rfl, rfl, rfl, rfl, trivial⟩ ⟨Nat.zero_le _, H⟩ ?_
  rintro f ⟨k, AO, cO⟩ w1 ⟨hk, H⟩
  simp only at hk H ⊢
  have hlen : (onceOf (xs.take k) free).length ≤ k := by have := once_len free (xs.take k); rw [List.length_take] at this; omega
  repeat refine wC_seq ?_
  refine wC_region ?_
  by_cases hlt : k < xs.length
  · refine o_lss true rfl rfl (by simp; omega) ?_
    refine o_nil ?_
    repeat refine wC_seq ?_
    refine wC_if true rfl ?_
    refine wC_skip ?_
    obtain ⟨m, hm⟩ : ∃ m, xs[k]? = some m := ⟨_, List.getElem?_eq_getElem hlt⟩
    obtain ⟨hwt, hwf⟩ := hw m (List.mem_of_getElem? hm)
    have hnext : onceOf (xs.take (k + 1)) free = onceStep free (onceOf (xs.take k) free) m := by
      obtain ⟨_, he⟩ := List.getElem?_eq_some_iff.1 hm
      rw [List.take_succ_eq_append_getElem hlt, he]
      simp [onceOf, List.foldl_append]
    generalize hout : onceOf (xs.take k) free = out at *
    repeat refine wC_seq ?_
    refine wC_block ?_
    repeat refine wC_seq ?_
    refine wC_region ?_
    refine o_idxS U_22 TI_29 hR rfl rfl (by omega) (by omega) ?_
    rintro a rfl hC
    refine o_ldSA TA_29 H hC (k * 2) rfl (by rw [mvs_len]; omega) ?_
    rw [mvs_at hm]
    refine o_alloc TI_29.zero H ?_; intro b8 w H
    refine o_stB (v := m.val) TI_29.size H 2 rfl rfl rfl (Nat.le_refl 2) m.cells_one ?_; intro w H
    refine o_nil ?_
    repeat refine wC_seq ?_
    refine wC_region ?_
    refine o_move ?_
    refine o_fld (fl := fd_29_0) (m := 0) U_29 rfl (T1_3.sz) rfl ?_
    refine o_ldB1 T1_3 H 2 rfl (o := 0) rfl (v := .int .i64 m.to) rfl ?_
    refine o_look U_3 U_27 TI_4.zero H 1 rfl rfl rfl hwt (seenF_get out m.to) ?_
    by_cases h1 : out.any (·.to == m.to) = true
    · rw [h1]
      refine o_not true rfl ?_
      refine o_move ?_
      refine o_off (d := 22) rfl rfl rfl rfl ?_
      refine o_off (d := 22) rfl rfl rfl rfl ?_
      refine o_off (d := 22) rfl rfl rfl rfl ?_
      refine o_off (d := 22) rfl rfl rfl rfl ?_
      refine o_pick false rfl ?_
      refine o_move ?_
      refine o_off (d := 28) rfl rfl rfl rfl ?_
      refine o_off (d := 28) rfl rfl rfl rfl ?_
      refine o_off (d := 28) rfl rfl rfl rfl ?_
      refine o_off (d := 28) rfl rfl rfl rfl ?_
      refine o_pick false rfl ?_
      refine o_nil ?_
      repeat refine wC_seq ?_
      refine wC_if false rfl ?_
      refine wC_skip ?_
      repeat refine wC_seq ?_
      refine wC_region ?_
      refine o_add64 rfl rfl (by omega) ?_
      refine o_move ?_
      refine o_nil ?_
      have e : onceOf (xs.take (k + 1)) free = out := by rw [hnext]; unfold onceStep; rw [if_neg (by simp [h1])]
      refine ⟨(k + 1, AO, cO), ⟨rfl, congrArg (fun l => Value.slice AO (List.length l) cO) e.symm, rfl, rfl, rfl, rfl, trivial⟩, ⟨hlt, ?_⟩, by show xs.length - (k + 1) < xs.length - k; omega⟩
      show St w0 (fun _ => False) [row AO (onceOf (xs.take (k + 1)) free).length cO 29 2 (mvs (onceOf (xs.take (k + 1)) free)), mp E4 3 b10 (k + 1) (seenF (onceOf (xs.take (k + 1)) free))] w
      rw [e]
      exact (H.drop 2).turn 1 rfl fun g hg => ⟨hg.1, hg.2.mono (Nat.le_succ _)⟩
    · have h1 : out.any (·.to == m.to) = false := by simpa using h1
      rw [h1]
      by_cases h2 : m.to = free
      · refine o_not false rfl ?_
        refine o_move ?_
        refine o_on (d := 22) rfl rfl (fun _ _ => ?_)
        refine o_fld (fl := fd_29_0) (m := 0) U_29 rfl (T1_3.sz) rfl ?_
        refine o_on (d := 22) rfl rfl (fun _ _ => ?_)
        refine o_ldB1 T1_3 H 2 rfl (o := 0) rfl (v := .int .i64 m.to) rfl ?_
        refine o_on (d := 22) rfl rfl (fun _ _ => ?_)
        refine o_move ?_
        refine o_on (d := 22) rfl rfl (fun _ _ => ?_)
        refine o_neq false rfl rfl (by simp [h2]) ?_
        refine o_pick true rfl ?_
        refine o_move ?_
        refine o_off (d := 28) rfl rfl rfl rfl ?_
        refine o_off (d := 28) rfl rfl rfl rfl ?_
        refine o_off (d := 28) rfl rfl rfl rfl ?_
        refine o_off (d := 28) rfl rfl rfl rfl ?_
        refine o_pick false rfl ?_
        refine o_nil ?_
        repeat refine wC_seq ?_
        refine wC_if false rfl ?_
        refine wC_skip ?_
        repeat refine wC_seq ?_
        refine wC_region ?_
        refine o_add64 rfl rfl (by omega) ?_
        refine o_move ?_
        refine o_nil ?_
        have e : onceOf (xs.take (k + 1)) free = out := by rw [hnext]; unfold onceStep; rw [if_neg (by simp [h1, h2])]
        refine ⟨(k + 1, AO, cO), ⟨rfl, congrArg (fun l => Value.slice AO (List.length l) cO) e.symm, rfl, rfl, rfl, rfl, trivial⟩, ⟨hlt, ?_⟩, by show xs.length - (k + 1) < xs.length - k; omega⟩
        show St w0 (fun _ => False) [row AO (onceOf (xs.take (k + 1)) free).length cO 29 2 (mvs (onceOf (xs.take (k + 1)) free)), mp E4 3 b10 (k + 1) (seenF (onceOf (xs.take (k + 1)) free))] w
        rw [e]
        exact (H.drop 2).turn 1 rfl fun g hg => ⟨hg.1, hg.2.mono (Nat.le_succ _)⟩
      · by_cases h3 : m.fr = free
        · refine o_not false rfl ?_
          refine o_move ?_
          refine o_on (d := 22) rfl rfl (fun _ _ => ?_)
          refine o_fld (fl := fd_29_0) (m := 0) U_29 rfl (T1_3.sz) rfl ?_
          refine o_on (d := 22) rfl rfl (fun _ _ => ?_)
          refine o_ldB1 T1_3 H 2 rfl (o := 0) rfl (v := .int .i64 m.to) rfl ?_
          refine o_on (d := 22) rfl rfl (fun _ _ => ?_)
          refine o_move ?_
          refine o_on (d := 22) rfl rfl (fun _ _ => ?_)
          refine o_neq true rfl rfl (by simp [h2]) ?_
          refine o_pick true rfl ?_
          refine o_move ?_
          refine o_on (d := 28) rfl rfl (fun _ _ => ?_)
          refine o_fld (fl := fd_29_1) (m := 0) U_29 rfl (T1_3.sz) rfl ?_
          refine o_on (d := 28) rfl rfl (fun _ _ => ?_)
          refine o_ldB1 T1_3 H 2 rfl (o := 1) rfl (v := .int .i64 m.fr) rfl ?_
          refine o_on (d := 28) rfl rfl (fun _ _ => ?_)
          refine o_move ?_
          refine o_on (d := 28) rfl rfl (fun _ _ => ?_)
          refine o_neq false rfl rfl (by simp [h3]) ?_
          refine o_pick true rfl ?_
          refine o_nil ?_
          repeat refine wC_seq ?_
          refine wC_if false rfl ?_
          refine wC_skip ?_
          repeat refine wC_seq ?_
          refine wC_region ?_
          refine o_add64 rfl rfl (by omega) ?_
          refine o_move ?_
          refine o_nil ?_
          have e : onceOf (xs.take (k + 1)) free = out := by rw [hnext]; unfold onceStep; rw [if_neg (by simp [h1, h2, h3])]
          refine ⟨(k + 1, AO, cO), ⟨rfl, congrArg (fun l => Value.slice AO (List.length l) cO) e.symm, rfl, rfl, rfl, rfl, trivial⟩, ⟨hlt, ?_⟩, by show xs.length - (k + 1) < xs.length - k; omega⟩
          show St w0 (fun _ => False) [row AO (onceOf (xs.take (k + 1)) free).length cO 29 2 (mvs (onceOf (xs.take (k + 1)) free)), mp E4 3 b10 (k + 1) (seenF (onceOf (xs.take (k + 1)) free))] w
          rw [e]
          exact (H.drop 2).turn 1 rfl fun g hg => ⟨hg.1, hg.2.mono (Nat.le_succ _)⟩
        · refine o_not false rfl ?_
          refine o_move ?_
          refine o_on (d := 22) rfl rfl (fun _ _ => ?_)
          refine o_fld (fl := fd_29_0) (m := 0) U_29 rfl (T1_3.sz) rfl ?_
          refine o_on (d := 22) rfl rfl (fun _ _ => ?_)
          refine o_ldB1 T1_3 H 2 rfl (o := 0) rfl (v := .int .i64 m.to) rfl ?_
          refine o_on (d := 22) rfl rfl (fun _ _ => ?_)
          refine o_move ?_
          refine o_on (d := 22) rfl rfl (fun _ _ => ?_)
          refine o_neq true rfl rfl (by simp [h2]) ?_
          refine o_pick true rfl ?_
          refine o_move ?_
          refine o_on (d := 28) rfl rfl (fun _ _ => ?_)
          refine o_fld (fl := fd_29_1) (m := 0) U_29 rfl (T1_3.sz) rfl ?_
          refine o_on (d := 28) rfl rfl (fun _ _ => ?_)
          refine o_ldB1 T1_3 H 2 rfl (o := 1) rfl (v := .int .i64 m.fr) rfl ?_
          refine o_on (d := 28) rfl rfl (fun _ _ => ?_)
          refine o_move ?_
          refine o_on (d := 28) rfl rfl (fun _ _ => ?_)
          refine o_neq true rfl rfl (by simp [h3]) ?_
          refine o_pick true rfl ?_
          refine o_nil ?_
          repeat refine wC_seq ?_
          refine wC_if true rfl ?_
          repeat refine wC_seq ?_
          refine wC_region ?_
          refine o_move ?_
          refine o_fld (fl := fd_29_0) (m := 0) U_29 rfl (T1_3.sz) rfl ?_
          refine o_ldB1 T1_3 H 2 rfl (o := 0) rfl (v := .int .i64 m.to) rfl ?_
          refine o_put (E := E4) (yv := true) U_3 U_27 H 1 rfl rfl rfl rfl hwt trivial (by omega) ?_; intro w H
          refine o_nil ?_
          repeat refine wC_seq ?_
          refine wC_region ?_
          refine o_move ?_
          refine o_ldBA TA_29 H 2 rfl (o := 0) rfl (Nat.le_refl _) ?_
          refine o_lit (pv := [(0, m.val)]) (cells := mvs [m]) U_22 TI_29 (by decide) rfl (by simp [Mv.val, Value.cells]) (by rw [mvs_single]; rfl) H ?_; intro bl w3 H
          refine o_appR U_22 TI_29 H 0 3 rfl rfl rfl rfl (mvs_one _) (by omega) ?_; intro AO' cO' w H
          refine o_assign ?_
          refine o_nil ?_
          repeat refine wC_seq ?_
          refine wC_region ?_
          refine o_add64 rfl rfl (by omega) ?_
          refine o_move ?_
          refine o_nil ?_
          have e : onceOf (xs.take (k + 1)) free = out ++ [m] := by rw [hnext]; unfold onceStep; rw [if_pos (by simp [h1, h2, h3])]
          have el : (onceOf (xs.take (k + 1)) free).length = out.length + 1 := by rw [e]; simp
          refine ⟨(k + 1, AO', cO'), ⟨rfl, congrArg (fun l => Value.slice AO' l cO') el.symm, rfl, rfl, rfl, rfl, trivial⟩, ⟨hlt, ?_⟩, by show xs.length - (k + 1) < xs.length - k; omega⟩
          show St w0 (fun _ => False) [row AO' (onceOf (xs.take (k + 1)) free).length cO' 29 2 (mvs (onceOf (xs.take (k + 1)) free)), mp E4 3 b10 (k + 1) (seenF (onceOf (xs.take (k + 1)) free))] w
          rw [el, e, seenF_app, mvs_app]
          exact (H.drop 3).drop 2
  · refine o_lss false rfl rfl (by simp; omega) ?_
    refine o_nil ?_
    repeat refine wC_seq ?_
    refine wC_if false rfl ?_
    refine wC_exit ?_
    repeat refine wC_seq ?_
    refine wC_region ?_
    refine o_move ?_
    refine o_assign ?_
    refine o_nil ?_
    refine wC_ret ?_
    obtain rfl : k = xs.length := by omega
    rw [List.take_length] at H
    refine ⟨AO, cO, ?_, H.drop 1⟩
    show Value.slice AO (onceOf (xs.take xs.length) free).length cO = _
    rw [List.take_length]
end Go.Proofs.Ytlpbghnphplclaa
