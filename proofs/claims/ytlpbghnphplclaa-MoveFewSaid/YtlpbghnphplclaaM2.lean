/- The walks: what moves are looked for. -/
import Derived.Test.YtlpbghnphplclaaFacts
import Derived.Test.YtlpbghnphplclaaK9
namespace Go.Proofs.Ytlpbghnphplclaa
set_option linter.unusedVariables false
set_option linter.unusedSimpArgs false
open Go Go.RowKit

structure Mv where
  to : Int
  fr : Int
deriving DecidableEq

def Mv.cells (m : Mv) : List Value := [.int .i64 m.to, .int .i64 m.fr]
def Mv.val (m : Mv) : Value := .agg #[.int .i64 m.to, .int .i64 m.fr]
def mvs (l : List Mv) : List Value := l.flatMap Mv.cells


/-- Line$1: To = From? -/
theorem same_any (m : Mv) (w : World) : CallsV Try.prog 12 #[m.val] w fun v w' => v = .bool (m.to == m.fr) ∧ Step w (fun _ => False) w' := by
  refine calls_of (args := [m.val]) Try.func12 rfl rfl rfl rfl ?_
  have H := St.begin w
  refine wC_seq (wC_region ?_)
  refine o_box (v := m.val) rfl H ?_; intro b w1 H
  refine o_assign ?_
  refine o_nil ?_
  refine wC_seq (wC_region ?_)
  refine o_fld (fl := fd_29_0) (m := 0) U_29 rfl T1_3.sz (a := ⟨b, 0, none⟩) rfl ?_
  refine o_ldB1 T1_3 H 0 rfl (b := b) (o := 0) rfl (v := .int .i64 m.to) rfl ?_
  refine o_fld (fl := fd_29_1) (m := 0) U_29 rfl T1_3.sz (a := ⟨b, 0, none⟩) rfl ?_
  refine o_ldB1 T1_3 H 0 rfl (b := b) (o := 1) rfl (v := .int .i64 m.fr) rfl ?_
  refine o_eql (m.to == m.fr) (a := m.to) (b := m.fr) (k := .i64) rfl rfl rfl ?_
  refine o_assign ?_
  refine o_nil ?_
  refine wC_ret ?_
  exact ⟨rfl, H.step⟩


theorem mvs_len (xs : List Mv) : (mvs xs).length = xs.length * 2 := by
  induction xs with
  | nil => rfl
  | cons x xs ih => simp only [mvs, List.flatMap_cons, List.length_append, List.length_cons] at ih ⊢; rw [ih]; simp [Mv.cells]; omega
theorem mvs_app (xs ys : List Mv) : mvs (xs ++ ys) = mvs xs ++ mvs ys := by simp [mvs]
theorem mvs_drop (xs : List Mv) : ∀ j, (mvs xs).drop (j * 2) = mvs (xs.drop j) := by
  induction xs with
  | nil => intro j; simp [mvs]
  | cons x xs ih =>
    intro j
    cases j with
    | zero => simp
    | succ j => rw [Nat.succ_mul]; exact ih j
theorem mvs_take (xs : List Mv) : ∀ j, (mvs xs).take (j * 2) = mvs (xs.take j) := by
  induction xs with
  | nil => intro j; simp [mvs]
  | cons x xs ih =>
    intro j
    cases j with
    | zero => simp [mvs]
    | succ j =>
      rw [Nat.succ_mul]
      show .int .i64 x.to :: .int .i64 x.fr :: (mvs xs).take (j * 2) = _
      rw [ih j]; rfl
theorem mvs_at {xs : List Mv} {j : Nat} {m : Mv} (h : xs[j]? = some m) : ((mvs xs).drop (j * 2)).take 2 = m.cells := by
  rw [mvs_drop]
  have hj := (List.getElem?_eq_some_iff.1 h).1
  rw [List.drop_eq_getElem_cons hj, (List.getElem?_eq_some_iff.1 h).2]
  rfl
theorem mvs_to {xs : List Mv} {j : Nat} {m : Mv} (h : xs[j]? = some m) : (mvs xs)[j * 2]? = some (.int .i64 m.to) := by
  have := congrArg (fun l => l[0]?) (mvs_at h)
  simpa [Mv.cells] using this
theorem mvs_fr {xs : List Mv} {j : Nat} {m : Mv} (h : xs[j]? = some m) : (mvs xs)[j * 2 + 1]? = some (.int .i64 m.fr) := by
  have := congrArg (fun l => l[1]?) (mvs_at h)
  simpa [Mv.cells] using this
theorem mvs_one (xs : List Mv) : ∀ u ∈ mvs xs, u.oneCell' = true := by
  intro u hu
  obtain ⟨m, _, hm⟩ := List.mem_flatMap.1 hu
  simp [Mv.cells] at hm
  rcases hm with rfl | rfl <;> rfl

/-- A function value that tells something of a move, and turns nothing that was there. -/
def PureP (g : FuncId) (cap : List Value) (w : World) (p : Mv → Bool) : Prop :=
  ∀ w1, Step w (fun _ => False) w1 → ∀ m : Mv, CallsV Try.prog g ([m.val] ++ cap).toArray w1 fun v w2 => v = .bool (p m) ∧ Step w1 (fun _ => False) w2

def idx (p : Mv → Bool) (xs : List Mv) : Int := match xs.findIdx? p with | some i => i | none => -1

theorem idx_at {p : Mv → Bool} {xs : List Mv} {k : Nat} {m : Mv} (hk : xs[k]? = some m) (h : ∀ (j : Nat) m, j < k → xs[j]? = some m → p m = false) (hp : p m = true) : idx p xs = k := by
  unfold idx
  have : xs.findIdx? p = some k := by
    rw [List.findIdx?_eq_some_iff_getElem]
    obtain ⟨hl, he⟩ := List.getElem?_eq_some_iff.1 hk
    exact ⟨hl, by rw [he]; exact hp, fun j hj => by rw [h j _ hj (List.getElem?_eq_getElem (by omega))]; simp⟩
  rw [this]
theorem idx_none {p : Mv → Bool} {xs : List Mv} (h : ∀ (j : Nat) m, xs[j]? = some m → p m = false) : idx p xs = -1 := by
  unfold idx
  have : xs.findIdx? p = none := by
    rw [List.findIdx?_eq_none_iff]
    intro x hx
    obtain ⟨j, hj⟩ := List.getElem?_of_mem hx
    exact h j x hj
  rw [this]

theorem index_any {g : FuncId} {cap : List Value} {fn : Func} (hF : IsF Try.prog g fn) {A : Option Addr} {c : Nat} {xs : List Mv} {p : Mv → Bool} (w : World) (hR : RdS (okOf w fun _ => False) w A xs.length c 2 (mvs xs)) (hp : PureP g cap w p) :
    CallsV Try.prog 13 #[.slice A xs.length c, .func (.func g) #[] cap.toArray] w fun v w' => v = .int .i64 (idx p xs) ∧ Step w (fun _ => False) w' := by
  have hm : xs.length ≤ 9223372036854775807 := by
    have := hR.2.1; have := hR.2.2.1; simp only [maxLen] at this; omega
  refine calls_of (args := [.slice A xs.length c, .func (.func g) #[] cap.toArray]) Try.func13 rfl rfl rfl rfl ?_
  have H := St.begin w
  refine wC_seq (wC_region ?_)
  refine o_assign ?_
  refine o_nil ?_
  refine wC_seq (wC_seq (wC_region ?_))
  refine o_move ?_
  refine o_len U_22 rfl ?_
  refine o_move ?_
  refine o_nil ?_
  refine wC_block ?_
  refine wC_loop (σ := Nat) (fun k => [(0, .slice A xs.length c), (1, .func (.func g) #[] cap.toArray), (7, .int .i64 xs.length), (8, .int .i64 k)])
    (fun k w' => k ≤ xs.length ∧ (∀ (j : Nat) m, j < k → xs[j]? = some m → p m = false) ∧ St w (fun _ => False) [] w') (fun k => xs.length - k) 0 ⟨rfl, rfl, rfl, rfl, trivial⟩ ⟨Nat.zero_le _, fun j m hj => absurd hj (Nat.not_lt_zero _), H⟩ ?_
  rintro f k w1 ⟨hk, hno, H⟩
  refine wC_seq (wC_region ?_)
  by_cases hlt : k < xs.length
  · refine o_lss true (a := k) (b := xs.length) rfl rfl (by simp; omega) ?_
    refine o_nil ?_
    refine wC_seq (wC_if true rfl (wC_skip ?_))
    refine wC_seq (wC_block ?_)
    refine wC_seq (wC_region ?_)
    refine o_move ?_
    refine o_assign ?_
    refine o_nil ?_
    refine wC_seq (wC_region ?_)
    refine o_move ?_
    refine o_move ?_
    refine o_move ?_
    refine o_idxS U_22 TI_29 hR (j := k) rfl rfl (by omega) (by omega) ?_
    rintro a rfl hC
    obtain ⟨m, hm0⟩ : ∃ m, xs[k]? = some m := ⟨_, List.getElem?_eq_getElem hlt⟩
    refine o_ldSA TA_29 H hC (k * 2) rfl (by rw [mvs_len]; omega) ?_
    rw [mvs_at hm0]
    refine o_callV (captured := cap) rfl hF (vs := [m.val]) rfl (hp w1 H.step m) ?_
    rintro v w2 ⟨rfl, hs⟩
    have H := H.idle hs
    refine o_nil ?_
    cases hpm : p m with
    | true =>
      refine wC_if true rfl ?_
      refine wC_seq (wC_region ?_)
      refine o_move ?_
      refine o_assign ?_
      refine o_nil ?_
      refine wC_ret ?_
      exact ⟨by rw [idx_at hm0 hno hpm]; rfl, H.step⟩
    | false =>
      refine wC_if false rfl (wC_skip ?_)
      refine wC_region ?_
      refine o_add64 (a := k) (b := 1) rfl rfl (by omega) ?_
      refine o_move ?_
      refine o_nil ?_
      exact ⟨k + 1, ⟨rfl, rfl, rfl, rfl, trivial⟩, ⟨by omega, fun j m' hj hm' => by
        rcases Nat.lt_or_ge j k with h | h
        · exact hno j m' h hm'
        · obtain rfl : j = k := by omega
          rw [hm0] at hm'; cases hm'; exact hpm, H⟩, by show xs.length - (k + 1) < xs.length - k; omega⟩
  · refine o_lss false (a := k) (b := xs.length) rfl rfl (by simp; omega) ?_
    refine o_nil ?_
    refine wC_seq (wC_if false rfl (wC_exit ?_))
    refine wC_seq (wC_region ?_)
    refine o_assign ?_
    refine o_nil ?_
    refine wC_ret ?_
    exact ⟨by rw [idx_none fun j m hm' => hno j m (by have := (List.getElem?_eq_some_iff.1 hm').1; omega) hm']; rfl, H.step⟩

/-- wanted$1 -/
theorem from_any (m : Mv) (p : Addr) (pl : Int) (w : World) (hC : Cells (okOf w fun _ => False) w p [.int .i64 pl]) :
    CallsV Try.prog 18 #[m.val, .pointer (some p)] w fun v w' => v = .bool (m.fr == pl) ∧ Step w (fun _ => False) w' := by
  refine calls_of (args := [m.val, .pointer (some p)]) Try.func18 rfl rfl rfl rfl ?_
  have H := St.begin w
  refine wC_seq (wC_region ?_)
  refine o_box (v := m.val) rfl H ?_; intro b1 w H
  refine o_assign ?_
  refine o_nil ?_
  refine wC_seq (wC_region ?_)
  refine o_fld (fl := fd_29_1) (m := 0) U_29 rfl (T1_3.sz) rfl ?_
  refine o_ldB1 T1_3 H 0 rfl (o := 1) rfl rfl ?_
  refine o_ldS1 T1_3 H hC 0 rfl rfl ?_
  refine o_eql _ rfl rfl rfl ?_
  refine o_assign ?_
  refine o_nil ?_
  refine wC_ret ?_
  exact ⟨rfl, H.step⟩

theorem contains_any {g : FuncId} {cap : List Value} {fn : Func} (hF : IsF Try.prog g fn) {A : Option Addr} {c : Nat} {xs : List Mv} {p : Mv → Bool} (w : World) (hR : RdS (okOf w fun _ => False) w A xs.length c 2 (mvs xs)) (hp : PureP g cap w p) :
    CallsV Try.prog 17 #[.slice A xs.length c, .func (.func g) #[] cap.toArray] w fun v w' => v = .bool (xs.any p) ∧ Step w (fun _ => False) w' := by
  refine calls_of (args := [.slice A xs.length c, .func (.func g) #[] cap.toArray]) Try.func17 rfl rfl rfl rfl ?_
  have H := St.begin w
  refine wC_seq (wC_region ?_)
  refine o_assign ?_
  refine o_nil ?_
  refine wC_seq (wC_region ?_)
  refine o_move ?_
  refine o_move ?_
  refine o_callF F_13 rfl (index_any hF w hR hp) ?_
  rintro v w2 ⟨rfl, hs⟩
  refine o_geq (xs.any p) rfl rfl ?_ ?_
  · unfold idx
    cases h : xs.findIdx? p with
    | none =>
      rw [List.findIdx?_eq_none_iff] at h
      have : xs.any p = false := by rw [List.any_eq_false]; intro x hx; rw [h x hx]; simp
      rw [this]; rfl
    | some i =>
      rw [List.findIdx?_eq_some_iff_getElem] at h
      obtain ⟨hl, hi, _⟩ := h
      have : xs.any p = true := List.any_eq_true.2 ⟨_, List.getElem_mem hl, hi⟩
      rw [this]; simp
  refine o_assign ?_
  refine o_nil ?_
  refine wC_ret ?_
  exact ⟨rfl, hs⟩

theorem wanted_any {A : Option Addr} {c : Nat} {xs : List Mv} (pl : Int) (w : World) (hR : RdS (okOf w fun _ => False) w A xs.length c 2 (mvs xs)) :
    CallsV Try.prog 15 #[.slice A xs.length c, .int .i64 pl] w fun v w' => v = .bool (xs.any fun m => m.fr == pl) ∧ Step w (fun _ => False) w' := by
  refine calls_of (args := [.slice A xs.length c, .int .i64 pl]) Try.func15 rfl rfl rfl rfl ?_
  have H := St.begin w
  refine wC_seq (wC_region ?_)
  refine o_box (v := .int .i64 pl) rfl H ?_; intro b1 w1 H
  refine o_assign ?_
  refine o_nil ?_
  refine wC_seq (wC_region ?_)
  refine o_move ?_
  refine o_func rfl rfl ?_
  have hC := H.cells 0 rfl
  refine o_callF F_17 rfl (contains_any (cap := [.pointer (some ⟨b1, 0, none⟩)]) F_18 w1 (hR.loc (okOf_step H.step)) (fun w2 h2 m => from_any m _ pl w2 (hC.loc (okOf_step h2)))) ?_
  rintro v w2 ⟨rfl, hs⟩
  have H := H.idle hs
  refine o_assign ?_
  refine o_nil ?_
  refine wC_ret ?_
  exact ⟨rfl, H.step⟩

/-- Line$2 -/
theorem free_any (m : Mv) (p : Addr) {A : Option Addr} {c : Nat} {xs : List Mv} (w : World) (hC : Cells (okOf w fun _ => False) w p [.slice A xs.length c]) (hR : RdS (okOf w fun _ => False) w A xs.length c 2 (mvs xs)) :
    CallsV Try.prog 14 #[m.val, .pointer (some p)] w fun v w' => v = .bool (!(xs.any fun x => x.fr == m.to)) ∧ Step w (fun _ => False) w' := by
  refine calls_of (args := [m.val, .pointer (some p)]) Try.func14 rfl rfl rfl rfl ?_
  have H := St.begin w
  refine wC_seq (wC_region ?_)
  refine o_box (v := m.val) rfl H ?_; intro b1 w1 H
  refine o_assign ?_
  refine o_nil ?_
  refine wC_seq (wC_region ?_)
  refine o_ldS1 T1_22 H hC 0 rfl rfl ?_
  refine o_fld (fl := fd_29_0) (m := 0) U_29 rfl (T1_3.sz) rfl ?_
  refine o_ldB1 T1_3 H 0 rfl (o := 0) (v := .int .i64 m.to) rfl rfl ?_
  refine o_callF F_15 rfl (wanted_any m.to w1 (hR.loc (okOf_step H.step))) ?_
  rintro v w2 ⟨rfl, hs⟩
  have H := H.idle hs
  refine o_not _ rfl ?_
  refine o_assign ?_
  refine o_nil ?_
  refine wC_ret ?_
  exact ⟨rfl, H.step⟩

theorem clone_any {A : Option Addr} {c : Nat} {xs : List Mv} (w : World) (hR : RdS (okOf w fun _ => False) w A xs.length c 2 (mvs xs)) (hl : xs.length ≤ 1000000) :
    CallsV Try.prog 11 #[.slice A xs.length c] w fun v w' => ∃ A' c', v = .slice A' xs.length c' ∧ St w (fun _ => False) [row A' xs.length c' 29 2 (mvs xs)] w' := by
  refine calls_of (args := [.slice A xs.length c]) Try.func11 rfl rfl rfl rfl ?_
  have H := St.begin w
  refine wC_seq (wC_region ?_)
  refine o_assign ?_
  refine o_nil ?_
  refine wC_seq (wC_seq (wC_region ?_))
  refine o_move ?_
  refine o_snil U_22 rfl rfl ?_
  refine o_nil ?_
  cases A with
  | none =>
    refine wC_if true rfl ?_
    refine wC_seq (wC_region ?_)
    refine o_assign ?_
    refine o_nil ?_
    refine wC_ret ?_
    have hx : xs = [] := by
      rcases hR.2.2.2 with h | ⟨a, h, _⟩
      · exact List.eq_nil_of_length_eq_zero h
      · cases h
    subst hx
    exact ⟨none, 0, rfl, H.addNil 29 2⟩
  | some a =>
    refine wC_if false rfl ?_
    refine wC_skip ?_
    refine wC_seq (wC_region ?_)
    refine o_lit U_22 TI_29 (by decide) rfl (by simp) rfl H ?_; intro b1 w H
    refine o_move ?_
    refine o_appS U_22 TI_29 H 0 rfl hR rfl rfl (mvs_one xs) (by omega) ?_; intro A' c' w H
    refine o_assign ?_
    refine o_nil ?_
    refine wC_ret ?_
    have hz : 0 + xs.length = xs.length := Nat.zero_add _
    simp only [hz] at H ⊢
    exact ⟨A', c', rfl, H⟩

end Go.Proofs.Ytlpbghnphplclaa
