/- The walk: MoveFew. -/
import Derived.Test.YtlpbghnphplclaaM7
import Derived.Test.YtlpbghnphplclaaL4
namespace Go.Proofs.Ytlpbghnphplclaa
set_option linter.unusedVariables false
set_option linter.unusedSimpArgs false
open Go Go.RowKit

noncomputable abbrev E3 : EK Try.prog 3 Int := ekInt U_3
def ints (l : List Int) : List Value := l.map (.int .i64)
theorem ints_len (l : List Int) : (ints l).length = l.length := by simp [ints]
theorem ints_app (l m : List Int) : ints (l ++ m) = ints l ++ ints m := by simp [ints]
theorem ints_at {l : List Int} {i : Nat} {x : Int} (h : l[i]? = some x) : (ints l)[i]? = some (.int .i64 x) := by simp [ints, h]
theorem ints_one (l : List Int) : ∀ u ∈ ints l, u.oneCell' = true := by
  intro u hu
  obtain ⟨x, _, rfl⟩ := List.mem_map.1 hu
  rfl

theorem filt_succ {ms : List Mv} {k : Nat} {m : Mv} (hm : ms[k]? = some m) : (ms.take (k + 1)).filter nself = (ms.take k).filter nself ++ (if nself m = true then [m] else []) := by
  obtain ⟨hk, he⟩ := List.getElem?_eq_some_iff.1 hm
  rw [List.take_succ_eq_append_getElem hk, he, List.filter_append]
  congr 1
  by_cases h : nself m = true <;> simp [h]
theorem filt_drop {ms : List Mv} {k : Nat} {m : Mv} (hm : ms[k]? = some m) : (ms.drop k).filter nself = (if nself m = true then [m] else []) ++ (ms.drop (k + 1)).filter nself := by
  obtain ⟨hk, he⟩ := List.getElem?_eq_some_iff.1 hm
  rw [List.drop_eq_getElem_cons hk, he]
  by_cases h : nself m = true <;> simp [h]

def eOf (ms : List Mv) (k : Nat) : List Int := (((ms.take k).filter nself).map Mv.to).reverse
def rOf (ms : List Mv) (k : Nat) : List Int := ((ms.drop k).filter nself).map Mv.to

theorem moveFew_any {A : Option Addr} {c : Nat} {xs : List Mv} (free : Int) (w0 : World) (hR : RdS (okOf w0 fun _ => False) w0 A xs.length c 2 (mvs xs)) (hw : ∀ m ∈ xs, wfm m) (hfree : wfi free) :
    CallsV Try.prog 4 #[.slice A xs.length c, .int .i64 free] w0 fun v w' => v = .bool true ∧ Step w0 (fun _ => False) w' := by
  refine calls_of (args := [.slice A xs.length c, .int .i64 free]) Try.func4 rfl rfl rfl rfl ?_
  have H := St.begin w0
  repeat refine wC_seq ?_
  refine wC_region ?_
  refine o_assign ?_
  refine o_nil ?_
  repeat refine wC_seq ?_
  refine wC_region ?_
  refine o_callF F_6 (vs := []) rfl (head_any w0) ?_; rintro v w ⟨rfl, hs⟩
  have H := H.idle hs
  refine o_not _ rfl ?_
  refine o_nil ?_
  repeat refine wC_seq ?_
  refine wC_if false rfl ?_
  refine wC_skip ?_
  repeat refine wC_seq ?_
  refine wC_region ?_
  refine o_move ?_
  refine o_len U_22 rfl ?_
  by_cases hl : xs.length ≤ 60
  case neg =>
    refine o_gtr true rfl rfl (by simp; omega) ?_
    refine o_nil ?_
    repeat refine wC_seq ?_
    refine wC_if true rfl ?_
    repeat refine wC_seq ?_
    refine wC_region ?_
    refine o_assign ?_
    refine o_nil ?_
    refine wC_ret ?_
    exact ⟨rfl, H.step⟩
  refine o_gtr false rfl rfl (by simp; omega) ?_
  refine o_nil ?_
  repeat refine wC_seq ?_
  refine wC_if false rfl ?_
  refine wC_skip ?_
  obtain ⟨hlaw1, hlaw2⟩ := few_law xs free
  obtain ⟨hnd, hsub⟩ := once_inv free xs
  have hlen := once_len free xs
  have hwms : ∀ m ∈ onceOf xs free, wfm m := fun m hm => hw m (hsub m hm).1
  generalize hms : onceOf xs free = ms at *
  generalize hleft : ms.filter nself = left at *
  have hleftms : ∀ m ∈ left, m ∈ ms := fun m hm => by rw [← hleft] at hm; exact (List.mem_filter.1 hm).1
  have hleftlen : left.length ≤ ms.length := by rw [← hleft]; exact List.length_filter_le _ _
  have hndl : (left.map Mv.to).Nodup := by rw [← hleft]; exact nodup_filter_to _ hnd
  generalize hf : fromF left = f at *
  have hfS : ∀ x y, f x = some y → x ∈ left.map Mv.to ∧ wfi y := fun x y h => by
    rw [← hf] at h
    obtain ⟨m, hm, rfl, rfl⟩ := fromF_some h
    exact ⟨List.mem_map.2 ⟨m, hm, rfl⟩, (hwms m (hleftms m hm)).2⟩
  generalize htot : cyc f [] (left.map Mv.to) = tot at *
  repeat refine wC_seq ?_
  refine wC_region ?_
  refine o_move ?_
  refine o_move ?_
  refine o_callF F_7 rfl (once_any free w (hR.loc (okOf_step H.step)) hl hw) ?_; rintro v w ⟨A7, c7, rfl, H7⟩
  have H := H.call0 _ _ H7
  rw [hms] at H ⊢
  refine o_assign ?_
  refine o_nil ?_
  repeat refine wC_seq ?_
  refine wC_region ?_
  refine o_mkmap E3 3 H ?_; intro bf w H
  refine o_assign ?_
  refine o_nil ?_
  repeat refine wC_seq ?_
  refine wC_region ?_
  refine o_assign ?_
  refine o_nil ?_
  repeat refine wC_seq ?_
  refine wC_region ?_
  refine o_move ?_
  refine o_len U_22 rfl ?_
  refine o_move ?_
  refine o_nil ?_
  repeat refine wC_seq ?_
  refine wC_block ?_
  refine wC_loop (σ := Nat) (fun k => [(1, .int .i64 free), (5, .slice A7 ms.length c7), (6, .map (some bf)), (7, .int .i64 (((ms.take k).filter nself).length : Nat)), (34, .slice A7 ms.length c7), (35, .int .i64 ms.length), (36, .int .i64 (k : Nat))])
    (fun k w' => k ≤ ms.length ∧ St w0 (fun _ => False) [row A7 ms.length c7 29 2 (mvs ms), mp E3 3 bf k (fromF ((ms.take k).filter nself))] w') (fun k => ms.length - k)
    0 ⟨rfl, rfl, rfl, rfl, rfl, rfl, rfl, trivial⟩ ⟨Nat.zero_le _, H⟩ ?_
  rintro fr k w1 ⟨hk, H⟩
  have hcount : ((ms.take k).filter nself).length ≤ 60 := by have := List.length_filter_le nself (ms.take k); simp at this; omega
  repeat refine wC_seq ?_
  refine wC_region ?_
  by_cases hlt : k < ms.length
  · refine o_lss true rfl rfl (by simp; omega) ?_
    refine o_nil ?_
    repeat refine wC_seq ?_
    refine wC_if true rfl ?_
    refine wC_skip ?_
    obtain ⟨m, hm⟩ : ∃ m, ms[k]? = some m := ⟨_, List.getElem?_eq_getElem hlt⟩
    have hmem := List.mem_of_getElem? hm
    obtain ⟨hwt, hwf⟩ := hwms m hmem
    have hsucc := filt_succ hm
    repeat refine wC_seq ?_
    refine wC_block ?_
    repeat refine wC_seq ?_
    refine wC_region ?_
    refine o_idxR U_22 TI_29 H 0 rfl rfl rfl (by omega) (by omega) ?_
    rintro a rfl hsp
    refine o_ldRA TA_29 H 0 rfl (k * 2) rfl (by rw [mvs_len]; omega) ?_
    rw [mvs_at hm]
    refine o_alloc TI_29.zero H ?_; intro b9 w H
    refine o_stB (v := m.val) TI_29.size H 2 rfl rfl rfl (Nat.le_refl 2) m.cells_one ?_; intro w H
    refine o_nil ?_
    repeat refine wC_seq ?_
    refine wC_region ?_
    refine o_fld (fl := fd_29_0) (m := 0) U_29 rfl (T1_3.sz) rfl ?_
    refine o_ldB1 T1_3 H 2 rfl (o := 0) rfl (v := .int .i64 m.to) rfl ?_
    refine o_fld (fl := fd_29_1) (m := 0) U_29 rfl (T1_3.sz) rfl ?_
    refine o_ldB1 T1_3 H 2 rfl (o := 1) rfl (v := .int .i64 m.fr) rfl ?_
    by_cases hself : m.to = m.fr
    · refine o_neq false rfl rfl (by simp [hself]) ?_
      refine o_nil ?_
      repeat refine wC_seq ?_
      refine wC_if false rfl ?_
      refine wC_skip ?_
      repeat refine wC_seq ?_
      refine wC_region ?_
      refine o_add64 rfl rfl (by omega) ?_
      refine o_move ?_
      refine o_nil ?_
      have e : (ms.take (k + 1)).filter nself = (ms.take k).filter nself := by rw [hsucc, if_neg (by simp [nself, hself]), List.append_nil]
      refine ⟨k + 1, ⟨rfl, rfl, rfl, congrArg (fun l => Value.int .i64 ((List.length l : Nat) : Int)) e.symm, rfl, rfl, rfl, trivial⟩, ⟨hlt, ?_⟩, by show ms.length - (k + 1) < ms.length - k; omega⟩
      rw [e]
      exact (H.drop 2).turn 1 rfl fun g hg => ⟨hg.1, hg.2.mono (Nat.le_succ _)⟩
    · refine o_neq true rfl rfl (by simp [hself]) ?_
      refine o_nil ?_
      repeat refine wC_seq ?_
      refine wC_if true rfl ?_
      repeat refine wC_seq ?_
      refine wC_region ?_
      refine o_move ?_
      refine o_fld (fl := fd_29_0) (m := 0) U_29 rfl (T1_3.sz) rfl ?_
      refine o_ldB1 T1_3 H 2 rfl (o := 0) rfl (v := .int .i64 m.to) rfl ?_
      refine o_fld (fl := fd_29_1) (m := 0) U_29 rfl (T1_3.sz) rfl ?_
      refine o_ldB1 T1_3 H 2 rfl (o := 1) rfl (v := .int .i64 m.fr) rfl ?_
      refine o_put (E := E3) (yv := m.fr) U_3 U_31 H 1 rfl rfl rfl rfl hwt (wfi_iff.1 hwf) (by omega) ?_; intro w H
      refine o_nil ?_
      repeat refine wC_seq ?_
      refine wC_region ?_
      refine o_move ?_
      refine o_add64 rfl rfl (by omega) ?_
      refine o_assign ?_
      refine o_nil ?_
      repeat refine wC_seq ?_
      refine wC_region ?_
      refine o_add64 rfl rfl (by omega) ?_
      refine o_move ?_
      refine o_nil ?_
      have e : (ms.take (k + 1)).filter nself = (ms.take k).filter nself ++ [m] := by rw [hsucc, if_pos (by simp [nself, hself])]
      have el : ((ms.take (k + 1)).filter nself).length = ((ms.take k).filter nself).length + 1 := by rw [e]; simp
      refine ⟨k + 1, ⟨rfl, rfl, rfl, congrArg (fun l => Value.int .i64 ((l : Nat) : Int)) el.symm, rfl, rfl, rfl, trivial⟩, ⟨hlt, ?_⟩, by show ms.length - (k + 1) < ms.length - k; omega⟩
      rw [e, fromF_app]
      · exact H.drop 2
      · intro x hx e'
        have hx' := (List.mem_filter.1 hx).1
        obtain ⟨i, hi⟩ := List.getElem?_of_mem hx'
        have hik : i < k := by have := (List.getElem?_eq_some_iff.1 hi).1; simp at this; omega
        rw [List.getElem?_take_of_lt hik] at hi
        have := nd_to hnd hi hm e'
        omega
  · refine o_lss false rfl rfl (by simp; omega) ?_
    refine o_nil ?_
    repeat refine wC_seq ?_
    refine wC_if false rfl ?_
    refine wC_exit ?_
    obtain rfl : k = ms.length := by omega
    rw [List.take_length, hleft] at hcount
    rw [List.take_length, hleft, hf] at H
    have hnn : (((ms.take ms.length).filter nself).length : Nat) = left.length := by rw [List.take_length, hleft]
    rw [hnn]
    repeat refine wC_seq ?_
    refine wC_region ?_
    refine o_assign ?_
    refine o_nil ?_
    repeat refine wC_seq ?_
    refine wC_region ?_
    refine o_mkmap E4 3 H ?_; intro bs w H
    refine o_assign ?_
    refine o_nil ?_
    repeat refine wC_seq ?_
    refine wC_region ?_
    refine o_move ?_
    refine o_len U_22 rfl ?_
    refine o_move ?_
    refine o_nil ?_
    repeat refine wC_seq ?_
    refine wC_block ?_
    refine wC_loop (σ := Nat × Nat) (fun s => [(1, .int .i64 free), (5, .slice A7 ms.length c7), (6, .map (some bf)), (7, .int .i64 (left.length : Nat)), (10, .int .i64 (s.2 : Nat)), (11, .map (some bs)), (54, .slice A7 ms.length c7), (55, .int .i64 ms.length), (56, .int .i64 (s.1 : Nat))])
      (fun s w' => s.1 ≤ ms.length ∧ ∃ F, SeenBy f (eOf ms s.1) F ∧ s.2 + cyc f (eOf ms s.1) (rOf ms s.1) = tot ∧ s.2 ≤ s.1 ∧ St w0 (fun _ => False) [row A7 ms.length c7 29 2 (mvs ms), mp E3 3 bf ms.length f, mp E4 3 bs (s.1 * 100) F] w') (fun s => ms.length - s.1)
      (0, 0) ⟨rfl, rfl, rfl, rfl, rfl, rfl, rfl, rfl, rfl, trivial⟩ ⟨Nat.zero_le _, _, ?_, ?_, Nat.le_refl _, H⟩ ?_
    · intro r; simp [eOf]
    · show 0 + cyc f (eOf ms 0) (rOf ms 0) = tot
      rw [Nat.zero_add, ← htot]
      unfold eOf rOf
      rw [List.take_zero, List.drop_zero, hleft]; rfl
    rintro fr ⟨k, rings⟩ w1 ⟨hk, F, hseen, hcyc, hrk, H⟩
    simp only at hk hseen hcyc hrk H ⊢
    repeat refine wC_seq ?_
    refine wC_region ?_
    by_cases hlt : k < ms.length
    · refine o_lss true rfl rfl (by simp; omega) ?_
      refine o_nil ?_
      repeat refine wC_seq ?_
      refine wC_if true rfl ?_
      refine wC_skip ?_
      obtain ⟨m, hm⟩ : ∃ m, ms[k]? = some m := ⟨_, List.getElem?_eq_getElem hlt⟩
      have hmem := List.mem_of_getElem? hm
      obtain ⟨hwt, hwf⟩ := hwms m hmem
      refine wC_cut (σ := Nat) (fun rings' => [(1, .int .i64 free), (5, .slice A7 ms.length c7), (6, .map (some bf)), (7, .int .i64 (left.length : Nat)), (10, .int .i64 (rings' : Nat)), (11, .map (some bs)), (54, .slice A7 ms.length c7), (55, .int .i64 ms.length), (56, .int .i64 (k : Nat))])
        (fun rings' w' => ∃ F, SeenBy f (eOf ms (k + 1)) F ∧ rings' + cyc f (eOf ms (k + 1)) (rOf ms (k + 1)) = tot ∧ rings' ≤ k + 1 ∧ St w0 (fun _ => False) [row A7 ms.length c7 29 2 (mvs ms), mp E3 3 bf ms.length f, mp E4 3 bs ((k + 1) * 100) F] w') ?_ ?_
      rotate_left
      · rintro fr rings' w ⟨F', h1, h2, h3, H⟩
        refine wC_region ?_
        refine o_add64 rfl rfl (by omega) ?_
        refine o_move ?_
        refine o_nil ?_
        exact ⟨(k + 1, rings'), ⟨rfl, rfl, rfl, rfl, rfl, rfl, rfl, rfl, rfl, trivial⟩, ⟨hlt, F', h1, h2, h3, H⟩, by show ms.length - (k + 1) < ms.length - k; omega⟩
      refine wC_block ?_
      repeat refine wC_seq ?_
      refine wC_region ?_
      refine o_idxR U_22 TI_29 H 0 rfl rfl rfl (by omega) (by omega) ?_
      rintro a rfl hsp
      refine o_ldRA TA_29 H 0 rfl (k * 2) rfl (by rw [mvs_len]; omega) ?_
      rw [mvs_at hm]
      refine o_alloc TI_29.zero H ?_; intro b13 w H
      refine o_stB (v := m.val) TI_29.size H 3 rfl rfl rfl (Nat.le_refl 2) m.cells_one ?_; intro w H
      refine o_nil ?_
      repeat refine wC_seq ?_
      refine wC_region ?_
      refine o_fld (fl := fd_29_0) (m := 0) U_29 rfl (T1_3.sz) rfl ?_
      refine o_ldB1 T1_3 H 3 rfl (o := 0) rfl (v := .int .i64 m.to) rfl ?_
      refine o_fld (fl := fd_29_1) (m := 0) U_29 rfl (T1_3.sz) rfl ?_
      refine o_ldB1 T1_3 H 3 rfl (o := 1) rfl (v := .int .i64 m.fr) rfl ?_
      by_cases hself : m.to = m.fr
      · refine o_eql true rfl rfl (by simp [hself]) ?_
        refine o_move ?_
        refine o_off (d := 65) rfl rfl rfl rfl ?_
        refine o_off (d := 65) rfl rfl rfl rfl ?_
        refine o_off (d := 65) rfl rfl rfl rfl ?_
        refine o_off (d := 65) rfl rfl rfl rfl ?_
        refine o_pick true rfl ?_
        refine o_nil ?_
        repeat refine wC_seq ?_
        refine wC_if true rfl ?_
        refine wC_exit ?_
        have e1 : eOf ms (k + 1) = eOf ms k := by unfold eOf; rw [filt_succ hm, if_neg (by simp [nself, hself]), List.append_nil]
        have e2 : rOf ms k = rOf ms (k + 1) := by unfold rOf; rw [filt_drop hm, if_neg (by simp [nself, hself]), List.nil_append]
        refine ⟨rings, ⟨rfl, rfl, rfl, rfl, rfl, rfl, rfl, rfl, rfl, trivial⟩, F, by rw [e1]; exact hseen, by rw [e1, ← e2]; exact hcyc, by omega, (H.drop 3).turn 2 rfl fun g hg => ⟨hg.1, hg.2.mono (by omega)⟩⟩
      · have hns : nself m = true := by simp [nself, hself]
        have hml : m ∈ left := by rw [← hleft]; exact List.mem_filter.2 ⟨hmem, hns⟩
        have hfm : f m.to = some m.fr := by rw [← hf]; exact fromF_mem hndl hml
        have e1 : eOf ms (k + 1) = m.to :: eOf ms k := by unfold eOf; rw [filt_succ hm, if_pos hns]; simp
        have e2 : rOf ms k = m.to :: rOf ms (k + 1) := by unfold rOf; rw [filt_drop hm, if_pos hns]; rfl
        rw [e2] at hcyc
        rw [e1]
        refine o_eql false rfl rfl (by simp [hself]) ?_
        refine o_move ?_
        refine o_on (d := 65) rfl rfl (fun _ _ => ?_)
        refine o_move ?_
        refine o_on (d := 65) rfl rfl (fun _ _ => ?_)
        refine o_fld (fl := fd_29_0) (m := 0) U_29 rfl (T1_3.sz) rfl ?_
        refine o_on (d := 65) rfl rfl (fun _ _ => ?_)
        refine o_ldB1 T1_3 H 3 rfl (o := 0) rfl (v := .int .i64 m.to) rfl ?_
        refine o_on (d := 65) rfl rfl (fun _ _ => ?_)
        cases hsee : (F m.to).getD false with
        | true =>
          refine o_look (rv := true) U_3 U_27 TI_4.zero H 2 rfl rfl rfl hwt hsee ?_
          refine o_pick false rfl ?_
          refine o_nil ?_
          repeat refine wC_seq ?_
          refine wC_if true rfl ?_
          refine wC_exit ?_
          rw [cyc_zero hseen fun _ => hsee] at hcyc
          exact ⟨rings, ⟨rfl, rfl, rfl, rfl, rfl, rfl, rfl, rfl, rfl, trivial⟩, F, hseen.skip fun _ => hsee, hcyc, by omega, (H.drop 3).turn 2 rfl fun g hg => ⟨hg.1, hg.2.mono (by omega)⟩⟩
        | false =>
          refine o_look (rv := false) U_3 U_27 TI_4.zero H 2 rfl rfl rfl hwt hsee ?_
          refine o_pick false rfl ?_
          refine o_nil ?_
          repeat refine wC_seq ?_
          refine wC_if false rfl ?_
          refine wC_skip ?_
          repeat refine wC_seq ?_
          refine wC_region ?_
          refine o_fld (fl := fd_29_0) (m := 0) U_29 rfl (T1_3.sz) rfl ?_
          refine o_ldB1 T1_3 H 3 rfl (o := 0) rfl (v := .int .i64 m.to) rfl ?_
          refine o_lit (pv := [(0, .int .i64 m.to)]) (cells := ints [m.to]) U_32 TI_3 (by decide) rfl (by simp [Value.cells]) rfl H ?_; intro b73 w H
          refine o_assign ?_
          refine o_nil ?_
          repeat refine wC_seq ?_
          refine wC_region ?_
          refine o_move ?_
          refine o_fld (fl := fd_29_0) (m := 0) U_29 rfl (T1_3.sz) rfl ?_
          refine o_ldB1 T1_3 H 3 rfl (o := 0) rfl (v := .int .i64 m.to) rfl ?_
          refine o_look (rv := m.fr) U_3 U_31 TI_3.zero H 1 rfl rfl rfl hwt (by rw [hfm]; rfl) ?_
          refine o_assign ?_
          refine o_nil ?_
          refine wC_cut (σ := Int × List Int × Option Addr × Nat) (fun s => [(1, .int .i64 free), (5, .slice (some a) ms.length c7), (6, .map (some bf)), (7, .int .i64 (left.length : Nat)), (10, .int .i64 (rings : Nat)), (11, .map (some bs)), (13, .pointer (some ⟨b13, 0, none⟩)), (14, .slice s.2.2.1 s.2.1.length s.2.2.2), (15, .int .i64 s.1), (54, .slice (some a) ms.length c7), (55, .int .i64 ms.length), (56, .int .i64 (k : Nat))])
            (fun s w' => (s.1 = m.to → onC f m.to ∧ ∀ q, leads f m.to q ↔ q ∈ s.2.1) ∧ (s.1 ≠ m.to → ¬ onC f m.to) ∧ (∀ x ∈ s.2.1, wfi x) ∧ s.2.1.length ≤ 71 ∧ St w0 (fun _ => False) [row (some a) ms.length c7 29 2 (mvs ms), mp E3 3 bf ms.length f, mp E4 3 bs (k * 100) F, blk b13 29 m.cells, row s.2.2.1 s.2.1.length s.2.2.2 3 1 (ints s.2.1)] w') ?_ ?_
          · repeat refine wC_seq ?_
            refine wC_region ?_
            refine o_assign ?_
            refine o_nil ?_
            repeat refine wC_seq ?_
            refine wC_block ?_
            refine wC_loop (σ := Nat × Int × List Int × Option Addr × Nat) (fun s => [(1, .int .i64 free), (5, .slice (some a) ms.length c7), (6, .map (some bf)), (7, .int .i64 (left.length : Nat)), (10, .int .i64 (rings : Nat)), (11, .map (some bs)), (13, .pointer (some ⟨b13, 0, none⟩)), (14, .slice s.2.2.2.1 s.2.2.1.length s.2.2.2.2), (15, .int .i64 s.2.1), (16, .int .i64 (s.1 : Nat)), (54, .slice (some a) ms.length c7), (55, .int .i64 ms.length), (56, .int .i64 (k : Nat))])
              (fun s w' => s.1 ≤ 70 ∧ Trail f m.to s.1 s.2.2.1 s.2.1 ∧ wfi s.2.1 ∧ (∀ x ∈ s.2.2.1, wfi x) ∧ St w0 (fun _ => False) [row (some a) ms.length c7 29 2 (mvs ms), mp E3 3 bf ms.length f, mp E4 3 bs (k * 100) F, blk b13 29 m.cells, row s.2.2.2.1 s.2.2.1.length s.2.2.2.2 3 1 (ints s.2.2.1)] w') (fun s => 70 - s.1)
              (0, m.fr, [m.to], some ⟨b73, 0, none⟩, 1) ⟨rfl, rfl, rfl, rfl, rfl, rfl, rfl, rfl, rfl, rfl, rfl, rfl, rfl, trivial⟩ ⟨by omega, Trail.start hfm, hwf, by simp; exact hwt, H⟩ ?_
            rintro fr ⟨i, at_, ring, AR, cR⟩ w2 ⟨hi, htr, hwa, hwr, H⟩
            simp only at hi htr hwa hwr H ⊢
            have hrl := htr.1
            repeat refine wC_seq ?_
            refine wC_region ?_
            refine o_move ?_
            by_cases hi70 : i < 70
            · refine o_lss true rfl rfl (by simp; omega) ?_
              refine o_move ?_
              refine o_on (d := 80) rfl rfl (fun _ _ => ?_)
              refine o_move ?_
              refine o_on (d := 80) rfl rfl (fun _ _ => ?_)
              refine o_fld (fl := fd_29_0) (m := 0) U_29 rfl (T1_3.sz) rfl ?_
              refine o_on (d := 80) rfl rfl (fun _ _ => ?_)
              refine o_ldB1 T1_3 H 3 rfl (o := 0) rfl (v := .int .i64 m.to) rfl ?_
              refine o_on (d := 80) rfl rfl (fun _ _ => ?_)
              by_cases hat : at_ = m.to
              · refine o_neq false rfl rfl (by simp [hat]) ?_
                refine o_pick true rfl ?_
                refine o_nil ?_
                repeat refine wC_seq ?_
                refine wC_if false rfl ?_
                refine wC_exit ?_
                refine ⟨(at_, ring, AR, cR), ⟨rfl, rfl, rfl, rfl, rfl, rfl, rfl, rfl, rfl, rfl, rfl, rfl, trivial⟩, fun _ => ?_, fun h => absurd hat h, hwr, by show ring.length ≤ 71; omega, H⟩
                rw [hat] at htr
                exact htr.ring
              · refine o_neq true rfl rfl (by simp [hat]) ?_
                refine o_pick true rfl ?_
                refine o_nil ?_
                repeat refine wC_seq ?_
                refine wC_if true rfl ?_
                refine wC_skip ?_
                repeat refine wC_seq ?_
                refine wC_block ?_
                repeat refine wC_seq ?_
                refine wC_region ?_
                refine o_move ?_
                refine o_move ?_
                cases hfa : f at_ with
                | none =>
                  refine o_look_ok (rv := 0) (rb := false) U_3 U_31 TI_3.zero H 1 rfl rfl rfl hwa (by rw [hfa]; rfl) (by rw [hfa]; rfl) ?_
                  refine o_move ?_
                  refine o_extract rfl rfl ?_
                  refine o_extract rfl rfl ?_
                  refine o_assign ?_
                  refine o_assign ?_
                  refine o_nil ?_
                  repeat refine wC_seq ?_
                  refine wC_region ?_
                  refine o_move ?_
                  refine o_not _ rfl ?_
                  refine o_nil ?_
                  repeat refine wC_seq ?_
                  refine wC_if true rfl ?_
                  refine wC_exit ?_
                  exact ⟨(at_, ring, AR, cR), ⟨rfl, rfl, rfl, rfl, rfl, rfl, rfl, rfl, rfl, rfl, rfl, rfl, trivial⟩, fun h => absurd h hat, fun _ => htr.stuck hfa, hwr, by show ring.length ≤ 71; omega, H⟩
                | some b =>
                  refine o_look_ok (rv := b) (rb := true) U_3 U_31 TI_3.zero H 1 rfl rfl rfl hwa (by rw [hfa]; rfl) (by rw [hfa]; rfl) ?_
                  refine o_move ?_
                  refine o_extract rfl rfl ?_
                  refine o_extract rfl rfl ?_
                  refine o_assign ?_
                  refine o_assign ?_
                  refine o_nil ?_
                  repeat refine wC_seq ?_
                  refine wC_region ?_
                  refine o_move ?_
                  refine o_not _ rfl ?_
                  refine o_nil ?_
                  repeat refine wC_seq ?_
                  refine wC_if false rfl ?_
                  refine wC_skip ?_
                  repeat refine wC_seq ?_
                  refine wC_region ?_
                  refine o_move ?_
                  refine o_move ?_
                  refine o_lit (pv := [(0, .int .i64 at_)]) (cells := ints [at_]) U_32 TI_3 (by decide) rfl (by simp [Value.cells]) rfl H ?_; intro b98 w H
                  refine o_appR U_32 TI_3 H 4 5 rfl rfl rfl rfl (ints_one _) (by omega) ?_; intro A' c' w H
                  refine o_assign ?_
                  refine o_nil ?_
                  repeat refine wC_seq ?_
                  refine wC_region ?_
                  refine o_move ?_
                  refine o_assign ?_
                  refine o_nil ?_
                  repeat refine wC_seq ?_
                  refine wC_region ?_
                  refine o_move ?_
                  refine o_add64 rfl rfl (by omega) ?_
                  refine o_assign ?_
                  refine o_nil ?_
                  have el : (ring ++ [at_]).length = ring.length + 1 := by simp
                  refine ⟨(i + 1, b, ring ++ [at_], A', c'), ⟨rfl, rfl, rfl, rfl, rfl, rfl, rfl, congrArg (fun l => Value.slice A' l c') el.symm, rfl, rfl, rfl, rfl, rfl, trivial⟩, ⟨by show i + 1 ≤ 70; omega, htr.next hat hfa, (hfS _ _ hfa).2, ?_, ?_⟩, by show 70 - (i + 1) < 70 - i; omega⟩
                  · intro x hx
                    rcases List.mem_append.1 hx with h | h
                    · exact hwr x h
                    · simp at h; subst h; exact hwa
                  · show St w0 (fun _ => False) [row (some a) ms.length c7 29 2 (mvs ms), mp E3 3 bf ms.length f, mp E4 3 bs (k * 100) F, blk b13 29 m.cells, row A' (ring ++ [at_]).length c' 3 1 (ints (ring ++ [at_]))] w
                    rw [el, ints_app]
                    exact H.drop 5
            · refine o_lss false rfl rfl (by simp; omega) ?_
              refine o_move ?_
              refine o_off (d := 80) rfl rfl rfl rfl ?_
              refine o_off (d := 80) rfl rfl rfl rfl ?_
              refine o_off (d := 80) rfl rfl rfl rfl ?_
              refine o_off (d := 80) rfl rfl rfl rfl ?_
              refine o_pick false rfl ?_
              refine o_nil ?_
              repeat refine wC_seq ?_
              refine wC_if false rfl ?_
              refine wC_exit ?_
              refine ⟨(at_, ring, AR, cR), ⟨rfl, rfl, rfl, rfl, rfl, rfl, rfl, rfl, rfl, rfl, rfl, rfl, trivial⟩, fun h => ?_, fun _ => htr.long (S := left.map Mv.to) (fun x y h => (hfS x y h).1) (by simp; omega), hwr, by show ring.length ≤ 71; omega, H⟩
              have h : at_ = m.to := h
              rw [h] at htr
              exact htr.ring
          · rintro fr ⟨at_, ring, AR, cR⟩ w2 ⟨hyes, hno, hwr, hrl, H⟩
            simp only at hyes hno hwr hrl H ⊢
            repeat refine wC_seq ?_
            refine wC_region ?_
            refine o_move ?_
            refine o_fld (fl := fd_29_0) (m := 0) U_29 rfl (T1_3.sz) rfl ?_
            refine o_ldB1 T1_3 H 3 rfl (o := 0) rfl (v := .int .i64 m.to) rfl ?_
            by_cases hat : at_ = m.to
            · obtain ⟨hon, hring⟩ := hyes hat
              refine o_neq false rfl rfl (by simp [hat]) ?_
              refine o_nil ?_
              repeat refine wC_seq ?_
              refine wC_if false rfl ?_
              refine wC_skip ?_
              repeat refine wC_seq ?_
              refine wC_region ?_
              refine o_move ?_
              refine o_len U_32 rfl ?_
              refine o_move ?_
              refine o_nil ?_
              repeat refine wC_seq ?_
              refine wC_block ?_
              refine wC_loop (σ := Nat) (fun j => [(1, .int .i64 free), (5, .slice (some a) ms.length c7), (6, .map (some bf)), (7, .int .i64 (left.length : Nat)), (10, .int .i64 (rings : Nat)), (11, .map (some bs)), (54, .slice (some a) ms.length c7), (55, .int .i64 ms.length), (56, .int .i64 (k : Nat)), (105, .slice AR ring.length cR), (106, .int .i64 ring.length), (107, .int .i64 (j : Nat))])
                (fun j w' => j ≤ ring.length ∧ ∃ F', (∀ r, (F' r).getD false = true ↔ ((F r).getD false = true ∨ r ∈ ring.take j)) ∧ St w0 (fun _ => False) [row (some a) ms.length c7 29 2 (mvs ms), mp E3 3 bf ms.length f, mp E4 3 bs (k * 100 + j) F', blk b13 29 m.cells, row AR ring.length cR 3 1 (ints ring)] w') (fun j => ring.length - j)
                0 ⟨rfl, rfl, rfl, rfl, rfl, rfl, rfl, rfl, rfl, rfl, rfl, rfl, trivial⟩ ⟨Nat.zero_le _, F, by simp, H⟩ ?_
              rintro fr j w3 ⟨hj, F', hF', H⟩
              repeat refine wC_seq ?_
              refine wC_region ?_
              by_cases hltj : j < ring.length
              · refine o_lss true rfl rfl (by simp; omega) ?_
                refine o_nil ?_
                repeat refine wC_seq ?_
                refine wC_if true rfl ?_
                refine wC_skip ?_
                obtain ⟨x, hx⟩ : ∃ x, ring[j]? = some x := ⟨_, List.getElem?_eq_getElem hltj⟩
                repeat refine wC_seq ?_
                refine wC_block ?_
                repeat refine wC_seq ?_
                refine wC_region ?_
                refine o_idxR U_32 TI_3 H 4 rfl rfl rfl (by omega) (by omega) ?_
                rintro a2 rfl hsp2
                refine o_ldR1 T1_3 H 4 rfl (j * 1) rfl (by rw [Nat.mul_one]; exact ints_at hx) ?_
                refine o_assign ?_
                refine o_nil ?_
                repeat refine wC_seq ?_
                refine wC_region ?_
                refine o_move ?_
                refine o_move ?_
                refine o_put (E := E4) (yv := true) U_3 U_27 H 2 rfl rfl rfl rfl (hwr x (List.mem_of_getElem? hx)) trivial (by omega) ?_; intro w H
                refine o_nil ?_
                repeat refine wC_seq ?_
                refine wC_region ?_
                refine o_add64 rfl rfl (by omega) ?_
                refine o_move ?_
                refine o_nil ?_
                refine ⟨j + 1, ⟨rfl, rfl, rfl, rfl, rfl, rfl, rfl, rfl, rfl, rfl, rfl, rfl, trivial⟩, ⟨hltj, upd F' x (some true), fun r => ?_, H⟩, by show ring.length - (j + 1) < ring.length - j; omega⟩
                obtain ⟨_, he⟩ := List.getElem?_eq_some_iff.1 hx
                rw [List.take_succ_eq_append_getElem hltj, he]
                by_cases hr : r = x
                · subst hr; simp [upd_same]
                · rw [upd_other _ hr, hF' r]; simp [hr]
              · refine o_lss false rfl rfl (by simp; omega) ?_
                refine o_nil ?_
                repeat refine wC_seq ?_
                refine wC_if false rfl ?_
                refine wC_exit ?_
                obtain rfl : j = ring.length := by omega
                rw [List.take_length] at hF'
                repeat refine wC_seq ?_
                refine wC_region ?_
                refine o_move ?_
                refine o_add64 rfl rfl (by omega) ?_
                refine o_assign ?_
                refine o_nil ?_
                rw [cyc_one hseen hon hsee] at hcyc
                refine ⟨rings + 1, ⟨rfl, rfl, rfl, rfl, rfl, rfl, rfl, rfl, rfl, trivial⟩, F', hseen.mark hon (fun r => by rw [hF' r, hring r]), by omega, by omega, ((H.drop 4).drop 3).turn 2 rfl fun g hg => ⟨hg.1, hg.2.mono (by omega)⟩⟩
            · refine o_neq true rfl rfl (by simp [hat]) ?_
              refine o_nil ?_
              repeat refine wC_seq ?_
              refine wC_if true rfl ?_
              refine wC_exit ?_
              have hon := hno hat
              rw [cyc_zero hseen fun h => absurd h hon] at hcyc
              exact ⟨rings, ⟨rfl, rfl, rfl, rfl, rfl, rfl, rfl, rfl, rfl, trivial⟩, F, hseen.skip fun h => absurd h hon, hcyc, by omega, ((H.drop 4).drop 3).turn 2 rfl fun g hg => ⟨hg.1, hg.2.mono (by omega)⟩⟩
    · refine o_lss false rfl rfl (by simp; omega) ?_
      refine o_nil ?_
      repeat refine wC_seq ?_
      refine wC_if false rfl ?_
      refine wC_exit ?_
      obtain rfl : k = ms.length := by omega
      have e2 : rOf ms ms.length = [] := by unfold rOf; rw [List.drop_length]; rfl
      rw [e2] at hcyc
      have hcyc : rings = tot := by rw [← hcyc]; rfl
      repeat refine wC_seq ?_
      refine wC_region ?_
      refine o_move ?_
      refine o_move ?_
      refine o_callF F_9 rfl (line_any free w1 (H.rdR 0 rfl) (by omega)) ?_; rintro v w ⟨A8, c8, rfl, hll, H8⟩
      have H := H.call0 _ _ H8
      generalize hgot : lineOf ms free = got at *
      refine o_assign ?_
      refine o_nil ?_
      have H : St w0 (fun _ => False) [row A8 got.length c8 29 2 (mvs got)] w := ((H.drop 0).drop 0).drop 0
      repeat refine wC_seq ?_
      refine wC_region ?_
      refine o_assign ?_
      refine o_nil ?_
      repeat refine wC_seq ?_
      refine wC_region ?_
      refine o_move ?_
      refine o_len U_22 rfl ?_
      refine o_move ?_
      refine o_nil ?_
      repeat refine wC_seq ?_
      refine wC_block ?_
      refine wC_loop (σ := Nat) (fun i => [(1, .int .i64 free), (7, .int .i64 (left.length : Nat)), (10, .int .i64 (rings : Nat)), (21, .slice A8 got.length c8), (22, .int .i64 ((got.take i).countP (·.to == free) : Nat)), (120, .slice A8 got.length c8), (121, .int .i64 got.length), (122, .int .i64 (i : Nat))])
        (fun i w' => i ≤ got.length ∧ St w0 (fun _ => False) [row A8 got.length c8 29 2 (mvs got)] w') (fun i => got.length - i)
        0 ⟨rfl, rfl, rfl, rfl, rfl, rfl, rfl, rfl, trivial⟩ ⟨Nat.zero_le _, H⟩ ?_
      rintro fr i w3 ⟨hi, H⟩
      have hcp : (got.take i).countP (·.to == free) ≤ i := by
        have := List.countP_le_length (p := fun x : Mv => x.to == free) (l := got.take i)
        simp at this; omega
      repeat refine wC_seq ?_
      refine wC_region ?_
      by_cases hlti : i < got.length
      · refine o_lss true rfl rfl (by simp; omega) ?_
        refine o_nil ?_
        repeat refine wC_seq ?_
        refine wC_if true rfl ?_
        refine wC_skip ?_
        obtain ⟨x, hx⟩ : ∃ x, got[i]? = some x := ⟨_, List.getElem?_eq_getElem hlti⟩
        have hcs : (got.take (i + 1)).countP (·.to == free) = (got.take i).countP (·.to == free) + (if x.to = free then 1 else 0) := by
          obtain ⟨_, he⟩ := List.getElem?_eq_some_iff.1 hx
          rw [List.take_succ_eq_append_getElem hlti, he, List.countP_append]
          simp [List.countP_cons]
        repeat refine wC_seq ?_
        refine wC_block ?_
        repeat refine wC_seq ?_
        refine wC_region ?_
        refine o_idxR U_22 TI_29 H 0 rfl rfl rfl (by omega) (by omega) ?_
        rintro a rfl hsp
        refine o_ldRA TA_29 H 0 rfl (i * 2) rfl (by rw [mvs_len]; omega) ?_
        rw [mvs_at hx]
        refine o_alloc TI_29.zero H ?_; intro b24 w H
        refine o_stB (v := x.val) TI_29.size H 1 rfl rfl rfl (Nat.le_refl 2) x.cells_one ?_; intro w H
        refine o_nil ?_
        repeat refine wC_seq ?_
        refine wC_region ?_
        refine o_fld (fl := fd_29_0) (m := 0) U_29 rfl (T1_3.sz) rfl ?_
        refine o_ldB1 T1_3 H 1 rfl (o := 0) rfl (v := .int .i64 x.to) rfl ?_
        refine o_move ?_
        by_cases hxf : x.to = free
        · refine o_eql true rfl rfl (by simp [hxf]) ?_
          refine o_nil ?_
          repeat refine wC_seq ?_
          refine wC_if true rfl ?_
          repeat refine wC_seq ?_
          refine wC_region ?_
          refine o_move ?_
          refine o_add64 rfl rfl (by omega) ?_
          refine o_assign ?_
          refine o_nil ?_
          repeat refine wC_seq ?_
          refine wC_region ?_
          refine o_add64 rfl rfl (by omega) ?_
          refine o_move ?_
          refine o_nil ?_
          rw [if_pos hxf] at hcs
          exact ⟨i + 1, ⟨rfl, rfl, rfl, rfl, congrArg (fun l => Value.int .i64 ((l : Nat) : Int)) hcs.symm, rfl, rfl, rfl, trivial⟩, ⟨hlti, H.drop 1⟩, by show got.length - (i + 1) < got.length - i; omega⟩
        · refine o_eql false rfl rfl (by simp [hxf]) ?_
          refine o_nil ?_
          repeat refine wC_seq ?_
          refine wC_if false rfl ?_
          refine wC_skip ?_
          repeat refine wC_seq ?_
          refine wC_region ?_
          refine o_add64 rfl rfl (by omega) ?_
          refine o_move ?_
          refine o_nil ?_
          rw [if_neg hxf] at hcs
          exact ⟨i + 1, ⟨rfl, rfl, rfl, rfl, congrArg (fun l => Value.int .i64 ((l : Nat) : Int)) hcs.symm, rfl, rfl, rfl, trivial⟩, ⟨hlti, H.drop 1⟩, by show got.length - (i + 1) < got.length - i; omega⟩
      · refine o_lss false rfl rfl (by simp; omega) ?_
        refine o_nil ?_
        repeat refine wC_seq ?_
        refine wC_if false rfl ?_
        refine wC_exit ?_
        obtain rfl : i = got.length := by omega
        rw [List.take_length, hlaw2]
        repeat refine wC_seq ?_
        refine wC_region ?_
        refine o_move ?_
        refine o_len U_22 rfl ?_
        refine o_move ?_
        refine o_move ?_
        refine o_add64 rfl rfl (by omega) ?_
        refine o_eql true rfl rfl (by simp; omega) ?_
        refine o_move ?_
        refine o_on (d := 139) rfl rfl (fun _ _ => ?_)
        refine o_move ?_
        refine o_on (d := 139) rfl rfl (fun _ _ => ?_)
        refine o_move ?_
        refine o_on (d := 139) rfl rfl (fun _ _ => ?_)
        refine o_eql true rfl rfl (by simp; omega) ?_
        refine o_pick true rfl ?_
        refine o_assign ?_
        refine o_nil ?_
        refine wC_ret ?_
        exact ⟨rfl, H.step⟩
end Go.Proofs.Ytlpbghnphplclaa
