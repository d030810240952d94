/- The walk of Line. -/
import Derived.Test.YtlpbghnphplclaaM3
import Derived.Test.YtlpbghnphplclaaKx
namespace Go.Proofs.Ytlpbghnphplclaa
set_option linter.unusedVariables false
set_option linter.unusedSimpArgs false
open Go Go.RowKit

/-- No one wants m.to. -/
def isFree (l : List Mv) (m : Mv) : Bool := !(l.any fun x => x.fr == m.to)
def reto (a b : Int) (m : Mv) : Mv := if m.fr = a then ⟨m.to, b⟩ else m

/-- What Line does. -/
def lineGo (fr : Int) : Nat → List Mv → List Mv → List Mv
  | 0, _, out => out
  | _ + 1, [], out => out
  | n + 1, h :: t, out =>
    match (h :: t).findIdx? (isFree (h :: t)) with
    | some i => lineGo fr n ((h :: t).eraseIdx i) (out ++ [((h :: t)[i]?).getD h])
    | none => if h.to = fr then lineGo fr n t (out ++ [h]) else lineGo fr n ((h :: t).map (reto h.to fr)) (out ++ [(⟨fr, h.to⟩ : Mv)])

def lineMu (fr : Int) (l : List Mv) : Nat := 2 * l.length + (if l.any (isFree l) = true ∨ (l.head?.map Mv.to) = some fr then 0 else 1)
def lineOf (xs : List Mv) (fr : Int) : List Mv := lineGo fr (2 * xs.length + 1) (xs.filter fun m => !(m.to == m.fr)) []

theorem lineGo_nil (fr : Int) (n : Nat) (out : List Mv) : lineGo fr n [] out = out := by cases n <;> rfl

theorem lineGo_some {fr : Int} {n i : Nat} {left out : List Mv} {m : Mv} (hf : left.findIdx? (isFree left) = some i) (hm : left[i]? = some m) : lineGo fr (n + 1) left out = lineGo fr n (left.eraseIdx i) (out ++ [m]) := by
  cases left with
  | nil => simp at hm
  | cons h t => simp only [lineGo, hf, hm, Option.getD_some]
theorem lineGo_hit {fr : Int} {n : Nat} {h : Mv} {t out : List Mv} (hf : (h :: t).findIdx? (isFree (h :: t)) = none) (hh : h.to = fr) : lineGo fr (n + 1) (h :: t) out = lineGo fr n t (out ++ [h]) := by
  simp only [lineGo, hf, hh, if_true]
theorem lineGo_new {fr : Int} {n : Nat} {h : Mv} {t out : List Mv} (hf : (h :: t).findIdx? (isFree (h :: t)) = none) (hh : h.to ≠ fr) : lineGo fr (n + 1) (h :: t) out = lineGo fr n ((h :: t).map (reto h.to fr)) (out ++ [(⟨fr, h.to⟩ : Mv)]) := by
  simp only [lineGo, hf, hh, if_false]
theorem lineMu_le (fr : Int) (l : List Mv) : lineMu fr l ≤ 2 * l.length + 1 := by unfold lineMu; split <;> omega
theorem lineMu_ge (fr : Int) (l : List Mv) : 2 * l.length ≤ lineMu fr l := by unfold lineMu; omega
theorem lineMu_new {fr : Int} {h : Mv} {t : List Mv} (hf : (h :: t).findIdx? (isFree (h :: t)) = none) (hh : h.to ≠ fr) : lineMu fr ((h :: t).map (reto h.to fr)) < lineMu fr (h :: t) := by
  have e1 : lineMu fr (h :: t) = 2 * (h :: t).length + 1 := by
    unfold lineMu
    rw [if_neg]
    rintro (h1 | h1)
    · rw [List.findIdx?_eq_none_iff] at hf
      obtain ⟨x, hx, hx2⟩ := List.any_eq_true.1 h1
      rw [hf x hx] at hx2; cases hx2
    · simp at h1; exact hh h1
  have e2 : lineMu fr ((h :: t).map (reto h.to fr)) = 2 * (h :: t).length := by
    unfold lineMu
    rw [if_pos, List.length_map, Nat.add_zero]
    refine .inl (List.any_eq_true.2 ⟨reto h.to fr h, by simp, ?_⟩)
    have e3 : (reto h.to fr h).to = h.to := by unfold reto; split <;> rfl
    unfold isFree
    rw [Bool.not_eq_true', List.any_eq_false, e3]
    intro x hx
    obtain ⟨y, _, rfl⟩ := List.mem_map.1 hx
    unfold reto
    split
    · simp; exact fun e => hh e.symm
    · simpa
  omega

theorem mvs_setFr {xs : List Mv} {k : Nat} {m : Mv} (h : xs[k]? = some m) (fr : Int) : lay (mvs xs) (k * 2 + 1) [.int .i64 fr] = mvs (xs.set k ⟨m.to, fr⟩) := by
  have hk := (List.getElem?_eq_some_iff.1 h).1
  rw [← mvs_set _ _ _ hk, lay_one _ _ _ (by rw [mvs_len]; omega)]
  unfold lay
  have e1 : (mvs xs).take (k * 2 + 1) = (mvs xs).take (k * 2) ++ [.int .i64 m.to] := by
    rw [List.take_add_one, mvs_to h]; rfl
  rw [List.set_eq_take_append_cons_drop, if_pos (by rw [mvs_len]; omega), e1]
  simp [Mv.cells]
theorem set_same {α : Type} {l : List α} {k : Nat} {m : α} (h : l[k]? = some m) : l.set k m = l := by
  obtain ⟨_, he⟩ := List.getElem?_eq_some_iff.1 h
  subst he
  exact List.set_getElem_self _

theorem padd (a : Addr) (i j : Nat) : Value.pointer (some ((a.add i).add j)) = Value.pointer (some (a.add (i + j))) := by rw [add_add']

theorem Mv.cells_one (m : Mv) : ∀ u ∈ m.cells, u.oneCell' = true := by
  intro u hu
  simp [Mv.cells] at hu
  rcases hu with rfl | rfl <;> rfl
theorem mvs_single (m : Mv) : mvs [m] = m.cells := by simp [mvs]

theorem line_any {A : Option Addr} {c : Nat} {xs : List Mv} (fr : Int) (w0 : World) (hR : RdS (okOf w0 fun _ => False) w0 A xs.length c 2 (mvs xs)) (hl : xs.length ≤ 1000000) :
    CallsV Try.prog 9 #[.slice A xs.length c, .int .i64 fr] w0 fun v w' => ∃ A' c', v = .slice A' (lineOf xs fr).length c' ∧ (lineOf xs fr).length ≤ 4 * 1000000 ∧ St w0 (fun _ => False) [row A' (lineOf xs fr).length c' 29 2 (mvs (lineOf xs fr))] w' := by
  refine calls_of (args := [.slice A xs.length c, .int .i64 fr]) Try.func9 rfl rfl rfl rfl ?_
  have H := St.begin w0
  repeat refine wC_seq ?_
  refine wC_region ?_
  refine o_assign ?_
  refine o_nil ?_
  repeat refine wC_seq ?_
  refine wC_region ?_
  refine o_move ?_
  refine o_callF F_11 rfl (clone_any w0 hR hl) ?_
  rintro v w1 ⟨A1, c1, rfl, H1⟩
  have H := H.call0 _ _ H1
  simp only [List.nil_append] at H
  obtain ⟨f1, hsf, _, hback⟩ := H.call (L1 := [_]) (L2 := [])
  refine o_callF F_10 rfl (deleteFunc_any (p := fun m => m.to == m.fr) F_12 (fun w m => same_any m w) w1 f1 (St.start hsf)) ?_
  rintro v w2 ⟨A2, c2, rfl, H2⟩
  have H := hback _ _ H2
  simp only [List.append_nil] at H
  refine o_alloc TI_22.zero H ?_; intro b w H
  refine o_stB (v := .slice A2 _ c2) TI_22.size H 1 rfl rfl rfl (Nat.le_refl 1) (by simp [Value.cells, Value.oneCell']) ?_; intro w H
  refine o_nil ?_
  repeat refine wC_seq ?_
  refine wC_region ?_
  refine o_assign ?_
  refine o_nil ?_
  have H := H.addNil 29 2
  repeat refine wC_seq ?_
  refine wC_block ?_
  have hfl := List.length_filter_le (fun m => !(m.to == m.fr)) xs
  refine wC_loop (σ := (List Mv × Option Addr × Nat) × (List Mv × Option Addr × Nat) × Nat) (fun s => [(1, .int .i64 fr), (5, .pointer (some ⟨b, 0, none⟩)), (6, .slice s.2.1.2.1 s.2.1.1.length s.2.1.2.2)])
    (fun s w' => lineGo fr s.2.2 s.1.1 s.2.1.1 = lineOf xs fr ∧ lineMu fr s.1.1 ≤ s.2.2 ∧ s.2.2 + s.2.1.1.length = 2 * xs.length + 1 ∧ s.1.1.length ≤ xs.length ∧
      St w0 (fun _ => False) [row s.1.2.1 s.1.1.length s.1.2.2 29 2 (mvs s.1.1), blk b 22 [.slice s.1.2.1 s.1.1.length s.1.2.2], row s.2.1.2.1 s.2.1.1.length s.2.1.2.2 29 2 (mvs s.2.1.1)] w') (fun s => s.2.2)
    ((xs.filter fun m => !(m.to == m.fr), A2, c2), ([], none, 0), 2 * xs.length + 1) ⟨rfl, rfl, rfl, trivial⟩ ⟨rfl, ?_, rfl, hfl, H⟩ ?_
  · show lineMu fr (xs.filter fun m => !(m.to == m.fr)) ≤ 2 * xs.length + 1
    unfold lineMu
    split <;> omega
  rintro f ⟨⟨left, AL, cL⟩, ⟨out, AO, cO⟩, fuel⟩ w1 ⟨hgo, hmu, hfu, hll, H⟩
  simp only at hgo hmu hfu hll H ⊢
  repeat refine wC_seq ?_
  refine wC_region ?_
  refine o_ldB1 T1_22 H 1 rfl (o := 0) rfl rfl ?_
  refine o_len U_22 rfl ?_
  cases left with
  | nil =>
    refine o_gtr false rfl rfl (by simp) ?_
    refine o_nil ?_
    repeat refine wC_seq ?_
    refine wC_if false rfl ?_
    refine wC_exit ?_
    repeat refine wC_seq ?_
    refine wC_region ?_
    refine o_move ?_
    refine o_assign ?_
    refine o_nil ?_
    refine wC_ret ?_
    rw [lineGo_nil] at hgo
    rw [← hgo]
    refine ⟨AO, cO, rfl, by omega, ?_⟩
    exact (H.drop 0).drop 0
  | cons h t =>
    generalize hleft : h :: t = left at *
    have hpos : 0 < left.length := by rw [← hleft]; simp
    refine o_gtr true rfl rfl (by simp; omega) ?_
    refine o_nil ?_
    repeat refine wC_seq ?_
    refine wC_if true rfl ?_
    refine wC_skip ?_
    repeat refine wC_seq ?_
    refine wC_block ?_
    repeat refine wC_seq ?_
    refine wC_region ?_
    refine o_ldB1 T1_22 H 1 rfl (o := 0) rfl rfl ?_
    refine o_func (v1 := []) (v2 := [.pointer (some ⟨b, 0, none⟩)]) rfl rfl ?_
    have hC := H.cells 1 rfl
    have hRL := H.rdR 0 rfl
    refine o_callF F_13 rfl (index_any (cap := [.pointer (some ⟨b, 0, none⟩)]) (p := isFree left) F_14 w1 hRL (fun w2 h2 m => free_any m _ w2 (hC.loc (okOf_step h2)) (hRL.loc (okOf_step h2)))) ?_
    rintro v w2 ⟨rfl, hs⟩
    have H := H.idle hs
    refine o_assign ?_
    refine o_nil ?_
    repeat refine wC_seq ?_
    refine wC_region ?_
    refine o_move ?_
    obtain ⟨n, rfl⟩ : ∃ n, fuel = n + 1 := ⟨fuel - 1, by have := lineMu_ge fr left; omega⟩
    cases hf : left.findIdx? (isFree left) with
    | some i =>
      have hi : idx (isFree left) left = (i : Nat) := by unfold idx; rw [hf]
      rw [hi]
      have hil : i < left.length := by
        rw [List.findIdx?_eq_some_iff_getElem] at hf
        exact hf.1
      obtain ⟨m, hm⟩ : ∃ m, left[i]? = some m := ⟨_, List.getElem?_eq_getElem hil⟩
      rw [lineGo_some hf hm] at hgo
      refine o_geq true rfl rfl (by simp) ?_
      refine o_nil ?_
      repeat refine wC_seq ?_
      refine wC_if true rfl ?_
      repeat refine wC_seq ?_
      refine wC_region ?_
      refine o_move ?_
      refine o_ldB1 T1_22 H 1 rfl (o := 0) rfl rfl ?_
      refine o_move ?_
      refine o_idxR U_22 TI_29 H 0 rfl rfl rfl (by omega) (by omega) ?_
      rintro a rfl hsp
      refine o_ldRA TA_29 H 0 rfl (i * 2) rfl (by rw [mvs_len]; omega) ?_
      rw [mvs_at hm]
      refine o_lit (pv := [(0, m.val)]) (cells := mvs [m]) U_22 TI_29 (by decide) rfl (by simp [Mv.val, Value.cells]) (by rw [mvs_single]; rfl) H ?_; intro bl w3 H
      refine o_appR U_22 TI_29 H 2 3 rfl rfl rfl rfl (mvs_one _) (by omega) ?_; intro AO' cO' w4 H
      refine o_assign ?_
      refine o_nil ?_
      rw [← mvs_app] at H
      have H := H.drop 3
      repeat refine wC_seq ?_
      refine wC_region ?_
      refine o_ldB1 T1_22 H 1 rfl (o := 0) rfl rfl ?_
      refine o_move ?_
      refine o_move ?_
      refine o_add64 rfl rfl (by omega) ?_
      obtain ⟨f1, hsf, _, hback⟩ := H.call (L1 := [_]) (L2 := [_, _])
      refine o_callF F_16 rfl (delete_any hil w4 f1 (St.start hsf)) ?_
      rintro v w5 ⟨A3, c3, rfl, H2⟩
      have H := hback _ _ H2
      refine o_stB (v := .slice A3 _ c3) TI_22.size H 1 rfl rfl rfl (Nat.le_refl 1) (by simp [Value.cells, Value.oneCell']) ?_; intro w H
      refine o_nil ?_
      refine wC_exit ?_
      have hle : (left.eraseIdx i).length = left.length - 1 := List.length_eraseIdx_of_lt hil
      have hlo : (out ++ [m]).length = out.length + 1 := by simp
      refine ⟨((left.eraseIdx i, A3, c3), (out ++ [m], AO', cO'), n), ⟨rfl, rfl, ?_, trivial⟩, ⟨hgo, ?_, ?_, ?_, ?_⟩, Nat.lt_succ_self n⟩
      · show Value.slice AO' (out.length + 1) cO' = .slice AO' (out ++ [m]).length cO'
        rw [hlo]
      · show lineMu fr (left.eraseIdx i) ≤ n
        have := lineMu_le fr (left.eraseIdx i); have := lineMu_ge fr left; omega
      · show n + (out ++ [m]).length = _
        omega
      · show (left.eraseIdx i).length ≤ _
        omega
      · show St w0 (fun _ => False) [row A3 (left.eraseIdx i).length c3 29 2 (mvs (left.eraseIdx i)), blk b 22 [.slice A3 (left.eraseIdx i).length c3], row AO' (out ++ [m]).length cO' 29 2 (mvs (out ++ [m]))] w
        rw [hle, hlo]
        exact H
    | none =>
      have hi : idx (isFree left) left = -1 := by unfold idx; rw [hf]
      rw [hi]
      refine o_geq false rfl rfl (by simp) ?_
      refine o_nil ?_
      repeat refine wC_seq ?_
      refine wC_if false rfl ?_
      refine wC_skip ?_
      have hm0 : left[0]? = some h := by rw [← hleft]; rfl
      repeat refine wC_seq ?_
      refine wC_region ?_
      refine o_ldB1 T1_22 H 1 rfl (o := 0) rfl rfl ?_
      refine o_idxR U_22 TI_29 H 0 rfl rfl rfl (by omega) (by omega) ?_
      rintro a rfl hsp
      refine o_fld (fl := fd_29_0) (m := 0) U_29 rfl (T1_3.sz) rfl ?_
      refine o_ldR1 T1_3 H 0 rfl (0 * 2) rfl (mvs_to hm0) ?_
      refine o_assign ?_
      refine o_nil ?_
      repeat refine wC_seq ?_
      refine wC_region ?_
      refine o_move ?_
      refine o_move ?_
      by_cases hh : h.to = fr
      · refine o_eql true rfl rfl (by simp [hh]) ?_
        refine o_nil ?_
        repeat refine wC_seq ?_
        refine wC_if true rfl ?_
        repeat refine wC_seq ?_
        have hlt1 : 1 ≤ left.length := hpos
        refine wC_mix (J := fun w' => ∃ L', St w0 (fun _ => False) (row (some a) left.length cL 29 2 (mvs left) :: blk b 22 [.slice (some a) left.length cL] :: L') w') 9 [0, 1, 2, 3, 6, 7] [4, 5, 8] ?F fo (by kernel_rfl) ⟨_, H.idle (Step.drew w2 _)⟩ ?_ ?_
        rotate_left
        · rintro w3 ⟨L', H⟩
          refine o_move ?_
          refine o_ldB1 T1_22 H 1 rfl (o := 0) rfl rfl ?_
          refine o_idxR U_22 TI_29 H 0 rfl rfl rfl (by omega) (by omega) ?_
          rintro a' ha hsp
          cases ha
          refine o_ldRA TA_29 H 0 rfl (0 * 2) rfl (by rw [mvs_len]; omega) ?_
          rw [mvs_at hm0]
          refine o_ldB1 T1_22 H 1 rfl (o := 0) rfl rfl ?_
          refine o_cutL U_22 TI_29 rfl rfl (by omega) (by omega) ?_
          refine o_nil ?_
          exact rfl
        have H := H.idle (Step.drew w2 _)
        refine o_lit (pv := [(0, h.val)]) (cells := mvs [h]) U_22 TI_29 (by decide) rfl (by simp [Mv.val, Value.cells]) (by rw [mvs_single]; rfl) H ?_; intro bl w3 H
        refine o_nil ?_
        refine ⟨⟨_, H⟩, ?_⟩
        refine o_appR U_22 TI_29 H 2 3 rfl rfl rfl rfl (mvs_one _) (by omega) ?_; intro AO' cO' w4 H
        refine o_nil ?_
        refine ⟨⟨_, H⟩, ?_⟩
        refine o_assign ?_
        refine o_nil ?_
        refine ⟨⟨_, H⟩, ?_⟩
        refine o_stB (v := .slice (if cL = 1 then some a else some (a.add (1 * 2))) (left.length - 1) (cL - 1)) TI_22.size H 1 rfl rfl rfl (Nat.le_refl 1) (by simp [Value.cells, Value.oneCell']) ?_; intro w H
        refine o_nil ?_
        refine wC_exit ?_
        have H := (H.drop 3).turn 0 rfl fun g hg => row.cutL hg 1 hlt1
        have ht : left.drop 1 = t := by rw [← hleft]; rfl
        have hlt : t.length = left.length - 1 := by rw [← ht, List.length_drop]
        have hlo : (out ++ [h]).length = out.length + 1 := by simp
        have hmt : (mvs left).drop (1 * 2) = mvs t := by rw [mvs_drop, ht]
        rw [hmt] at H
        subst hleft
        rw [lineGo_hit hf hh] at hgo
        refine ⟨((t, (if cL = 1 then some a else some (a.add (1 * 2))), cL - 1), (out ++ [h], AO', cO'), n), ⟨rfl, rfl, ?_, trivial⟩, ⟨hgo, ?_, ?_, ?_, ?_⟩, Nat.lt_succ_self n⟩
        · show Value.slice AO' (out.length + 1) cO' = .slice AO' (out ++ [h]).length cO'
          rw [hlo]
        · show lineMu fr t ≤ n
          have := lineMu_le fr t; have := lineMu_ge fr (h :: t); omega
        · show n + (out ++ [h]).length = _
          omega
        · show t.length ≤ _
          omega
        · show St w0 (fun _ => False) [row _ t.length _ 29 2 (mvs t), blk b 22 [.slice _ t.length _], row AO' (out ++ [h]).length cO' 29 2 (mvs (out ++ [h]))] w
          rw [hlt, hlo, mvs_app]
          exact H
      · refine o_eql false rfl rfl (by simp [hh]) ?_
        refine o_nil ?_
        repeat refine wC_seq ?_
        refine wC_if false rfl ?_
        refine wC_skip ?_
        repeat refine wC_seq ?_
        refine wC_region ?_
        refine o_move ?_
        refine o_move ?_
        refine o_move ?_
        refine o_build (pv := [(0, .int .i64 fr), (1, .int .i64 h.to)]) (cells := (⟨fr, h.to⟩ : Mv).cells) rfl (by kernel_rfl) ?_
        refine o_lit (pv := [(0, (⟨fr, h.to⟩ : Mv).val)]) (cells := mvs [⟨fr, h.to⟩]) U_22 TI_29 (by decide) rfl (by simp [Mv.val, Value.cells]) (by rw [mvs_single]; rfl) H ?_; intro bl w3 H
        refine o_appR U_22 TI_29 H 2 3 rfl rfl rfl rfl (mvs_one _) (by omega) ?_; intro AO' cO' w4 H
        refine o_assign ?_
        refine o_nil ?_
        rw [← mvs_app] at H
        have H := H.drop 3
        repeat refine wC_seq ?_
        refine wC_region ?_
        refine o_ldB1 T1_22 H 1 rfl (o := 0) rfl rfl ?_
        refine o_len U_22 rfl ?_
        refine o_move ?_
        refine o_nil ?_
        repeat refine wC_seq ?_
        refine wC_block ?_
        have hlo : (out ++ [(⟨fr, h.to⟩ : Mv)]).length = out.length + 1 := by simp
        refine wC_loop (σ := Nat) (fun k => [(1, .int .i64 fr), (5, .pointer (some ⟨b, 0, none⟩)), (6, .slice AO' (out.length + 1) cO'), (8, .int .i64 h.to), (55, .int .i64 left.length), (56, .int .i64 (k : Nat))])
          (fun k w' => k ≤ left.length ∧ St w0 (fun _ => False) [row (some a) left.length cL 29 2 (mvs ((left.take k).map (reto h.to fr) ++ left.drop k)), blk b 22 [.slice (some a) left.length cL], row AO' (out.length + 1) cO' 29 2 (mvs (out ++ [(⟨fr, h.to⟩ : Mv)]))] w') (fun k => left.length - k)
          0 ⟨rfl, rfl, rfl, rfl, rfl, rfl, trivial⟩ ⟨Nat.zero_le _, H⟩ ?_
        rintro f k w5 ⟨hk, H⟩
        repeat refine wC_seq ?_
        refine wC_region ?_
        by_cases hlt : k < left.length
        · refine o_lss true rfl rfl (by simp; omega) ?_
          refine o_nil ?_
          repeat refine wC_seq ?_
          refine wC_if true rfl ?_
          refine wC_skip ?_
          repeat refine wC_seq ?_
          refine wC_block ?_
          repeat refine wC_seq ?_
          refine wC_region ?_
          refine o_move ?_
          refine o_assign ?_
          refine o_nil ?_
          repeat refine wC_seq ?_
          refine wC_region ?_
          refine o_ldB1 T1_22 H 1 rfl (o := 0) rfl rfl ?_
          refine o_move ?_
          refine o_idxR U_22 TI_29 H 0 rfl rfl rfl (by omega) (by omega) ?_
          rintro a' ha hsp
          cases ha
          refine o_fld (fl := fd_29_1) (m := 0) U_29 rfl (T1_3.sz) rfl ?_
          obtain ⟨m, hm⟩ : ∃ m, left[k]? = some m := ⟨_, List.getElem?_eq_getElem hlt⟩
          have hmid : ((left.take k).map (reto h.to fr) ++ left.drop k)[k]? = some m := by
            rw [List.getElem?_append_right (by simp; omega)]; simp [Nat.min_eq_left hk, hm]
          have hstep : ((left.take k).map (reto h.to fr) ++ left.drop k).set k (reto h.to fr m) = (left.take (k + 1)).map (reto h.to fr) ++ left.drop (k + 1) := by
            have hkl : ((left.take k).map (reto h.to fr)).length = k := by simp; omega
            obtain ⟨_, he⟩ := List.getElem?_eq_some_iff.1 hm
            rw [List.set_append_right _ _ (by omega), hkl, Nat.sub_self, List.drop_eq_getElem_cons hlt, List.take_succ_eq_append_getElem hlt, List.map_append, he]
            simp
          have hml : ((left.take k).map (reto h.to fr) ++ left.drop k).length = left.length := by simp; omega
          refine o_ldR1 T1_3 H 0 rfl (k * 2 + 1) (padd _ _ _) (mvs_fr hmid) ?_
          refine o_move ?_
          by_cases hfm : m.fr = h.to
          · refine o_eql true rfl rfl (by simp [hfm]) ?_
            refine o_nil ?_
            repeat refine wC_seq ?_
            refine wC_if true rfl ?_
            repeat refine wC_seq ?_
            refine wC_region ?_
            refine o_ldB1 T1_22 H 1 rfl (o := 0) rfl rfl ?_
            refine o_move ?_
            refine o_move ?_
            refine o_idxR U_22 TI_29 H 0 rfl rfl rfl (by omega) (by omega) ?_
            rintro a' ha hsp
            cases ha
            refine o_fld (fl := fd_29_1) (m := 0) U_29 rfl (T1_3.sz) rfl ?_
            refine o_stR (v := .int .i64 fr) T1_3.sz H 0 rfl (k * 2 + 1) (padd _ _ _) rfl (by rw [mvs_len, hml]; show k * 2 + 1 + 1 ≤ _; omega) (by simp [Value.cells, Value.oneCell']) ?_; intro w H
            refine o_nil ?_
            repeat refine wC_seq ?_
            refine wC_region ?_
            refine o_add64 rfl rfl (by omega) ?_
            refine o_move ?_
            refine o_nil ?_
            refine ⟨k + 1, ⟨rfl, rfl, rfl, rfl, rfl, rfl, trivial⟩, ⟨hlt, ?_⟩, by show left.length - (k + 1) < left.length - k; omega⟩
            have e : lay (mvs ((left.take k).map (reto h.to fr) ++ left.drop k)) (k * 2 + 1) (Value.int .i64 fr).cells.toList = mvs ((left.take (k + 1)).map (reto h.to fr) ++ left.drop (k + 1)) := by
              have : reto h.to fr m = ⟨m.to, fr⟩ := by unfold reto; rw [if_pos hfm]
              rw [← hstep, this]
              exact mvs_setFr hmid fr
            rw [← e]
            exact H
          · refine o_eql false rfl rfl (by simp [hfm]) ?_
            refine o_nil ?_
            repeat refine wC_seq ?_
            refine wC_if false rfl ?_
            refine wC_skip ?_
            repeat refine wC_seq ?_
            refine wC_region ?_
            refine o_add64 rfl rfl (by omega) ?_
            refine o_move ?_
            refine o_nil ?_
            refine ⟨k + 1, ⟨rfl, rfl, rfl, rfl, rfl, rfl, trivial⟩, ⟨hlt, ?_⟩, by show left.length - (k + 1) < left.length - k; omega⟩
            have e : (left.take k).map (reto h.to fr) ++ left.drop k = (left.take (k + 1)).map (reto h.to fr) ++ left.drop (k + 1) := by
              have : reto h.to fr m = m := by unfold reto; rw [if_neg hfm]
              rw [← hstep, this, set_same hmid]
            rw [← e]
            exact H
        · refine o_lss false rfl rfl (by simp; omega) ?_
          refine o_nil ?_
          repeat refine wC_seq ?_
          refine wC_if false rfl ?_
          refine wC_exit ?_
          obtain rfl : k = left.length := by omega
          rw [List.take_length, List.drop_length, List.append_nil] at H
          subst hleft
          rw [lineGo_new hf hh] at hgo
          have hlm : ((h :: t).map (reto h.to fr)).length = (h :: t).length := by simp
          refine ⟨(((h :: t).map (reto h.to fr), some a, cL), (out ++ [(⟨fr, h.to⟩ : Mv)], AO', cO'), n), ⟨rfl, rfl, ?_, trivial⟩, ⟨hgo, ?_, ?_, ?_, ?_⟩, Nat.lt_succ_self n⟩
          · show Value.slice AO' (out.length + 1) cO' = .slice AO' (out ++ [(⟨fr, h.to⟩ : Mv)]).length cO'
            rw [hlo]
          · show lineMu fr ((h :: t).map (reto h.to fr)) ≤ n
            have := lineMu_new hf hh; omega
          · show n + (out ++ [(⟨fr, h.to⟩ : Mv)]).length = _
            omega
          · show ((h :: t).map (reto h.to fr)).length ≤ _
            omega
          · show St w0 (fun _ => False) [row _ ((h :: t).map (reto h.to fr)).length _ 29 2 (mvs ((h :: t).map (reto h.to fr))), blk b 22 [.slice _ ((h :: t).map (reto h.to fr)).length _], row AO' (out ++ [(⟨fr, h.to⟩ : Mv)]).length cO' 29 2 (mvs (out ++ [(⟨fr, h.to⟩ : Mv)]))] w5
            rw [hlm, hlo]
            exact H
end Go.Proofs.Ytlpbghnphplclaa
