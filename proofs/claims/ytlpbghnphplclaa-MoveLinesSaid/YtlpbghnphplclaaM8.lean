/- The walk: MoveLines. -/
import Derived.Test.YtlpbghnphplclaaM7
import Derived.Test.YtlpbghnphplclaaL1
namespace Go.Proofs.Ytlpbghnphplclaa
set_option linter.unusedVariables false
set_option linter.unusedSimpArgs false
open Go Go.RowKit

theorem lineRec_wf {fr : Int} (hfr : wfi fr) : ∀ (n : Nat) (l : List Mv), (∀ m ∈ l, wfm m) → ∀ m ∈ lineRec fr n l, wfm m
  | 0, l, _, m, hm => by simp [lineRec] at hm
  | n + 1, [], _, m, hm => by simp [lineRec] at hm
  | n + 1, h :: t, hl, m, hm => by
    cases hf : (h :: t).findIdx? (isFree (h :: t)) with
    | some i =>
      simp only [lineRec, hf] at hm
      rcases List.mem_cons.1 hm with rfl | hm
      · cases hi : (h :: t)[i]? with
        | none => exact hl h (by simp)
        | some x => exact hl x (List.mem_of_getElem? hi)
      · exact lineRec_wf hfr n _ (fun x hx => hl x ((List.eraseIdx_sublist _ i).subset hx)) m hm
    | none =>
      simp only [lineRec, hf] at hm
      split at hm
      · rcases List.mem_cons.1 hm with rfl | hm
        · exact hl _ (by simp)
        · exact lineRec_wf hfr n t (fun x hx => hl x (by simp [hx])) m hm
      · rcases List.mem_cons.1 hm with rfl | hm
        · exact ⟨hfr, (hl h (by simp)).1⟩
        · refine lineRec_wf hfr n _ (fun x hx => ?_) m hm
          obtain ⟨y, hy, rfl⟩ := List.mem_map.1 hx
          have := hl y hy
          unfold reto; split
          · exact ⟨this.1, hfr⟩
          · exact this
theorem lineOf_wf {fr : Int} (hfr : wfi fr) {l : List Mv} (hl : ∀ m ∈ l, wfm m) : ∀ m ∈ lineOf l fr, wfm m := by
  unfold lineOf
  rw [lineGo_rec, List.nil_append]
  exact lineRec_wf hfr _ _ fun m hm => hl m (List.mem_filter.1 hm).1

theorem moveLines_any {A : Option Addr} {c : Nat} {xs : List Mv} {v : Option Nat} {N : Nat} {F : St8} (free : Int) (w0 : World) (hR : RdS (okOf w0 fun _ => False) w0 A xs.length c 2 (mvs xs)) (hM : RdM E2 3 (okOf w0 fun _ => False) w0 v N F) (hw : ∀ m ∈ xs, wfm m) (hfree : wfi free) :
    CallsV Try.prog 3 #[.slice A xs.length c, .int .i64 free, .map v] w0 fun v w' => v = .bool true ∧ Step w0 (fun _ => False) w' := by
  refine calls_of (args := [.slice A xs.length c, .int .i64 free, .map v]) Try.func3 rfl rfl rfl rfl ?_
  have H := St.begin w0
  repeat refine wC_seq ?_
  refine wC_region ?_
  refine o_assign ?_
  refine o_nil ?_
  repeat refine wC_seq ?_
  refine wC_region ?_
  refine o_callF F_6 (vs := []) rfl (head_any w0) ?_; rintro v w ⟨rfl, hs⟩
  have H := H.idle hs
  refine o_not _ rfl ?_
  refine o_nil ?_
  repeat refine wC_seq ?_
  refine wC_if false rfl ?_
  refine wC_skip ?_
  repeat refine wC_seq ?_
  refine wC_region ?_
  refine o_move ?_
  refine o_len U_22 rfl ?_
  have early : ∀ (f : Fr) w', Step w0 (fun _ => False) w' → True := fun _ _ _ => trivial
  clear early
  by_cases hl : xs.length ≤ 60
  case neg =>
    refine o_gtr true rfl rfl (by simp; omega) ?_
    refine o_move ?_
    refine o_off (d := 21) rfl rfl rfl rfl ?_
    refine o_off (d := 21) rfl rfl rfl rfl ?_
    refine o_off (d := 21) rfl rfl rfl rfl ?_
    refine o_pick true rfl ?_
    refine o_nil ?_
    repeat refine wC_seq ?_
    refine wC_if true rfl ?_
    repeat refine wC_seq ?_
    refine wC_region ?_
    refine o_assign ?_
    refine o_nil ?_
    refine wC_ret ?_
    exact ⟨rfl, H.step⟩
  refine o_gtr false rfl rfl (by simp; omega) ?_
  refine o_move ?_
  refine o_on (d := 21) rfl rfl (fun _ _ => ?_)
  refine o_move ?_
  refine o_on (d := 21) rfl rfl (fun _ _ => ?_)
  refine o_lenS (E := E2) U_23 H hM rfl ?_
  intro N' hM
  refine o_on (d := 21) rfl rfl (fun _ _ => ?_)
  by_cases hN : N' ≤ 60
  case neg =>
    refine o_gtr true rfl rfl (by simp; omega) ?_
    refine o_pick false rfl ?_
    refine o_nil ?_
    repeat refine wC_seq ?_
    refine wC_if true rfl ?_
    repeat refine wC_seq ?_
    refine wC_region ?_
    refine o_assign ?_
    refine o_nil ?_
    refine wC_ret ?_
    exact ⟨rfl, H.step⟩
  refine o_gtr false rfl rfl (by simp; omega) ?_
  refine o_pick false rfl ?_
  refine o_nil ?_
  repeat refine wC_seq ?_
  refine wC_if false rfl ?_
  refine wC_skip ?_
  obtain ⟨hlaw1, hlaw2⟩ := lines_law xs free F
  obtain ⟨_, hsub⟩ := once_inv free xs
  have hlen := once_len free xs
  have hwms : ∀ m ∈ onceOf xs free, wfm m := fun m hm => hw m (hsub m hm).1
  generalize hms : onceOf xs free = ms at *
  repeat refine wC_seq ?_
  refine wC_region ?_
  refine o_move ?_
  refine o_move ?_
  refine o_callF F_7 rfl (once_any free w (hR.loc (okOf_step H.step)) hl hw) ?_; rintro v w ⟨A7, c7, rfl, H7⟩
  have H := H.call0 _ _ H7
  rw [hms] at H ⊢
  refine o_assign ?_
  refine o_nil ?_
  repeat refine wC_seq ?_
  refine wC_region ?_
  refine o_move ?_
  refine o_move ?_
  refine o_callF F_9 rfl (line_any free w (H.rdR 0 rfl) (by omega)) ?_; rintro v w ⟨A8, c8, rfl, hll, H8⟩
  have H := H.call0 _ _ H8
  refine o_move ?_
  refine o_callF F_8 rfl (do_any w (H.rdR 1 rfl) (hM.loc (okOf_step H.step)) (by omega) (by omega) (lineOf_wf hfree hwms)) ?_; rintro v w ⟨bg, rfl, H9⟩
  have H := H.call0 _ _ H9
  generalize hG : doOf (lineOf ms free) F = G at *
  generalize hNN : N' + (lineOf ms free).length = NN at *
  refine o_assign ?_
  refine o_nil ?_
  have H := H.drop 1
  repeat refine wC_seq ?_
  refine wC_region ?_
  refine o_mkmap E4 3 H ?_; intro bt w H
  refine o_assign ?_
  refine o_nil ?_
  have H : St w0 (fun _ => False) [mp E2 3 bg NN G, mp E4 3 bt 0 (fun _ => none), row A7 ms.length c7 29 2 (mvs ms)] w := H.rot (L1 := [_]) (L2 := [_, _])
  repeat refine wC_seq ?_
  refine wC_region ?_
  refine o_move ?_
  refine o_len U_22 rfl ?_
  refine o_move ?_
  refine o_nil ?_
  repeat refine wC_seq ?_
  refine wC_block ?_
  refine wC_loop (σ := Nat) (fun k => [(1, .int .i64 free), (2, .map v), (8, .map (some bg)), (9, .map (some bt)), (35, .slice A7 ms.length c7), (36, .int .i64 ms.length), (37, .int .i64 (k : Nat))])
    (fun k w' => k ≤ ms.length ∧ St w0 (fun _ => False) [mp E2 3 bg NN G, mp E4 3 bt k (seenF (ms.take k)), row A7 ms.length c7 29 2 (mvs ms)] w') (fun k => ms.length - k)
    0 ⟨rfl, rfl, rfl, rfl, rfl, rfl, rfl, trivial⟩ ⟨Nat.zero_le _, H⟩ ?_
  rintro f k w1 ⟨hk, H⟩
  repeat refine wC_seq ?_
  refine wC_region ?_
  by_cases hlt : k < ms.length
  · refine o_lss true rfl rfl (by simp; omega) ?_
    refine o_nil ?_
    repeat refine wC_seq ?_
    refine wC_if true rfl ?_
    refine wC_skip ?_
    obtain ⟨m, hm⟩ : ∃ m, ms[k]? = some m := ⟨_, List.getElem?_eq_getElem hlt⟩
    have hmem := List.mem_of_getElem? hm
    obtain ⟨hwt, hwf⟩ := hwms m hmem
    have heq := hlaw1 m hmem
    repeat refine wC_seq ?_
    refine wC_block ?_
    repeat refine wC_seq ?_
    refine wC_region ?_
    refine o_idxR U_22 TI_29 H 2 rfl rfl rfl (by omega) (by omega) ?_
    rintro a rfl hsp
    refine o_ldRA TA_29 H 2 rfl (k * 2) rfl (by rw [mvs_len]; omega) ?_
    rw [mvs_at hm]
    refine o_alloc TI_29.zero H ?_; intro b11 w H
    refine o_stB (v := m.val) TI_29.size H 3 rfl rfl rfl (Nat.le_refl 2) m.cells_one ?_; intro w H
    refine o_nil ?_
    repeat refine wC_seq ?_
    refine wC_region ?_
    refine o_move ?_
    refine o_fld (fl := fd_29_0) (m := 0) U_29 rfl (T1_3.sz) rfl ?_
    refine o_ldB1 T1_3 H 3 rfl (o := 0) rfl (v := .int .i64 m.to) rfl ?_
    refine o_put (E := E4) (yv := true) U_3 U_27 H 1 rfl rfl rfl rfl hwt trivial (by omega) ?_; intro w H
    refine o_nil ?_
    repeat refine wC_seq ?_
    refine wC_region ?_
    refine o_move ?_
    refine o_fld (fl := fd_29_0) (m := 0) U_29 rfl (T1_3.sz) rfl ?_
    refine o_ldB1 T1_3 H 3 rfl (o := 0) rfl (v := .int .i64 m.to) rfl ?_
    refine o_look U_3 U_23 TI_2.zero H 0 rfl rfl rfl hwt heq ?_
    refine o_move ?_
    refine o_fld (fl := fd_29_1) (m := 0) U_29 rfl (T1_3.sz) rfl ?_
    refine o_ldB1 T1_3 H 3 rfl (o := 1) rfl (v := .int .i64 m.fr) rfl ?_
    refine o_lookS U_3 U_23 TI_2.zero H hM rfl rfl hwf rfl ?_
    refine o_neq false rfl rfl (by simp [vl]; rfl) ?_
    refine o_nil ?_
    repeat refine wC_seq ?_
    refine wC_if false rfl ?_
    refine wC_skip ?_
    repeat refine wC_seq ?_
    refine wC_region ?_
    refine o_add64 rfl rfl (by omega) ?_
    refine o_move ?_
    refine o_nil ?_
    refine ⟨k + 1, ⟨rfl, rfl, rfl, rfl, rfl, rfl, rfl, trivial⟩, ⟨hlt, ?_⟩, by show ms.length - (k + 1) < ms.length - k; omega⟩
    have e : seenF (ms.take (k + 1)) = upd (seenF (ms.take k)) m.to (some true) := by
      obtain ⟨_, he⟩ := List.getElem?_eq_some_iff.1 hm
      rw [List.take_succ_eq_append_getElem hlt, he, seenF_app]
    rw [e]
    exact H.drop 3
  · refine o_lss false rfl rfl (by simp; omega) ?_
    refine o_nil ?_
    repeat refine wC_seq ?_
    refine wC_if false rfl ?_
    refine wC_exit ?_
    obtain rfl : k = ms.length := by omega
    rw [List.take_length] at H
    have H := H.drop 2
    repeat refine wC_seq ?_
    refine wC_region ?_
    refine o_move ?_
    refine o_rangeS (E := E2) U_3 U_23 H hM rfl ?_; intro es clock cnt r w hcnt hAt H
    refine o_nil ?_
    repeat refine wC_seq ?_
    refine wC_block ?_
    refine wC_loop (σ := (Int → Bool) × Nat) (fun s => [(1, .int .i64 free), (2, .map v), (8, .map (some bg)), (9, .map (some bt)), (55, .pointer (some ⟨r, 0, none⟩))])
      (fun s w' => St w0 (fun _ => False) [mp E2 3 bg NN G, mp E4 3 bt ms.length (seenF ms), itr Try.prog 3 2 v r es clock s.1 s.2] w') (fun s => s.2)
      (fun k => (F k).isSome, cnt) ⟨rfl, rfl, rfl, rfl, rfl, trivial⟩ H ?_
    rintro f ⟨todo, cnt⟩ w1 H
    simp only at H ⊢
    repeat refine wC_seq ?_
    refine wC_region ?_
    refine o_nextS (E := E2) U_3 H 2 rfl hAt rfl ?_ ?_
    · intro hdone
      refine o_extract rfl rfl ?_
      refine o_nil ?_
      repeat refine wC_seq ?_
      refine wC_if false rfl ?_
      refine wC_exit ?_
      have H := H.drop 2
      repeat refine wC_seq ?_
      refine wC_region ?_
      refine o_move ?_
      obtain ⟨es, clock, H⟩ := H.freeze 0 rfl
      refine o_rangeR (E := E2) U_3 U_23 H 0 rfl rfl ?_; intro cnt r w hcnt H
      refine o_nil ?_
      repeat refine wC_seq ?_
      refine wC_block ?_
      refine wC_loop (σ := (Int → Bool) × Nat) (fun s => [(1, .int .i64 free), (2, .map v), (9, .map (some bt)), (78, .pointer (some ⟨r, 0, none⟩))])
        (fun s w' => St w0 (fun _ => False) [mpz E2 3 bg NN G es clock, mp E4 3 bt ms.length (seenF ms), itr Try.prog 3 2 (some bg) r es clock s.1 s.2] w') (fun s => s.2)
        (fun k => (G k).isSome, cnt) ⟨rfl, rfl, rfl, rfl, trivial⟩ H ?_
      rintro f ⟨todo, cnt⟩ w1 H
      simp only at H ⊢
      repeat refine wC_seq ?_
      refine wC_region ?_
      refine o_nextR (E := E2) U_3 H 2 0 rfl rfl rfl ?_ ?_
      · intro hdone
        refine o_extract rfl rfl ?_
        refine o_nil ?_
        repeat refine wC_seq ?_
        refine wC_if false rfl ?_
        refine wC_exit ?_
        repeat refine wC_seq ?_
        refine wC_region ?_
        refine o_assign ?_
        refine o_nil ?_
        refine wC_ret ?_
        exact ⟨rfl, H.step⟩
      · intro k x w' cnt' hk htk hFk hlt H hen
        refine o_extract rfl rfl ?_
        refine o_nil ?_
        repeat refine wC_seq ?_
        refine wC_if true rfl ?_
        refine wC_skip ?_
        repeat refine wC_seq ?_
        refine wC_block ?_
        repeat refine wC_seq ?_
        refine wC_region ?_
        refine o_entry rfl hen ?_
        refine o_extract rfl rfl ?_
        refine o_extract rfl rfl ?_
        refine o_assign ?_
        refine o_assign ?_
        refine o_nil ?_
        repeat refine wC_seq ?_
        refine wC_region ?_
        refine o_move ?_
        refine o_move ?_
        by_cases h1 : ms.any (·.to == k) = true
        · refine o_look (rv := true) U_3 U_27 TI_4.zero H 1 rfl rfl rfl hk.1 ((seenF_get ms k).trans h1) ?_
          refine o_not true rfl ?_
          refine o_move ?_
          refine o_off (d := 88) rfl rfl rfl rfl ?_
          refine o_off (d := 88) rfl rfl rfl rfl ?_
          refine o_off (d := 88) rfl rfl rfl rfl ?_
          refine o_pick false rfl ?_
          refine o_move ?_
          refine o_off (d := 93) rfl rfl rfl rfl ?_
          refine o_off (d := 93) rfl rfl rfl rfl ?_
          refine o_off (d := 93) rfl rfl rfl rfl ?_
          refine o_off (d := 93) rfl rfl rfl rfl ?_
          refine o_off (d := 93) rfl rfl rfl rfl ?_
          refine o_pick false rfl ?_
          refine o_nil ?_
          repeat refine wC_seq ?_
          refine wC_if false rfl ?_
          refine wC_skip ?_
          exact ⟨(fun j => todo j && j != k, cnt'), ⟨rfl, rfl, rfl, rfl, trivial⟩, H, hlt⟩
        · have h1 : ms.any (·.to == k) = false := by simpa using h1
          refine o_look (rv := false) U_3 U_27 TI_4.zero H 1 rfl rfl rfl hk.1 ((seenF_get ms k).trans h1) ?_
          by_cases h2 : k = free
          · refine o_not false rfl ?_
            refine o_move ?_
            refine o_on (d := 88) rfl rfl (fun _ _ => ?_)
            refine o_move ?_
            refine o_on (d := 88) rfl rfl (fun _ _ => ?_)
            refine o_move ?_
            refine o_on (d := 88) rfl rfl (fun _ _ => ?_)
            refine o_neq false rfl rfl (by simp [h2]) ?_
            refine o_pick true rfl ?_
            refine o_move ?_
            refine o_off (d := 93) rfl rfl rfl rfl ?_
            refine o_off (d := 93) rfl rfl rfl rfl ?_
            refine o_off (d := 93) rfl rfl rfl rfl ?_
            refine o_off (d := 93) rfl rfl rfl rfl ?_
            refine o_off (d := 93) rfl rfl rfl rfl ?_
            refine o_pick false rfl ?_
            refine o_nil ?_
            repeat refine wC_seq ?_
            refine wC_if false rfl ?_
            refine wC_skip ?_
            exact ⟨(fun j => todo j && j != k, cnt'), ⟨rfl, rfl, rfl, rfl, trivial⟩, H, hlt⟩
          · have hno : ∀ m ∈ ms, m.to ≠ k := fun m hm e => by rw [List.any_eq_false] at h1; exact h1 m hm (by simp [e])
            have hgk := hlaw2 k h2 hno
            refine o_not false rfl ?_
            refine o_move ?_
            refine o_on (d := 88) rfl rfl (fun _ _ => ?_)
            refine o_move ?_
            refine o_on (d := 88) rfl rfl (fun _ _ => ?_)
            refine o_move ?_
            refine o_on (d := 88) rfl rfl (fun _ _ => ?_)
            refine o_neq true rfl rfl (by simp [h2]) ?_
            refine o_pick true rfl ?_
            refine o_move ?_
            refine o_on (d := 93) rfl rfl (fun _ _ => ?_)
            refine o_move ?_
            refine o_on (d := 93) rfl rfl (fun _ _ => ?_)
            refine o_move ?_
            refine o_on (d := 93) rfl rfl (fun _ _ => ?_)
            refine o_lookS (E := E2) (rv := x) U_3 U_23 TI_2.zero H hM rfl rfl hk.1 (hgk.symm.trans (by show (G k).getD 0 = x; rw [hFk]; rfl)) ?_
            refine o_on (d := 93) rfl rfl (fun _ _ => ?_)
            refine o_move ?_
            refine o_on (d := 93) rfl rfl (fun _ _ => ?_)
            refine o_neq false rfl rfl (by simp) ?_
            refine o_pick true rfl ?_
            refine o_nil ?_
            repeat refine wC_seq ?_
            refine wC_if false rfl ?_
            refine wC_skip ?_
            exact ⟨(fun j => todo j && j != k, cnt'), ⟨rfl, rfl, rfl, rfl, trivial⟩, H, hlt⟩
    · intro k x w' cnt' hk htk hFk hlt H hen
      refine o_extract rfl rfl ?_
      refine o_nil ?_
      repeat refine wC_seq ?_
      refine wC_if true rfl ?_
      refine wC_skip ?_
      repeat refine wC_seq ?_
      refine wC_block ?_
      repeat refine wC_seq ?_
      refine wC_region ?_
      refine o_entry rfl hen ?_
      refine o_extract rfl rfl ?_
      refine o_extract rfl rfl ?_
      refine o_assign ?_
      refine o_assign ?_
      refine o_nil ?_
      repeat refine wC_seq ?_
      refine wC_region ?_
      refine o_move ?_
      refine o_move ?_
      by_cases h1 : ms.any (·.to == k) = true
      · refine o_look (rv := true) U_3 U_27 TI_4.zero H 1 rfl rfl rfl hk.1 ((seenF_get ms k).trans h1) ?_
        refine o_not true rfl ?_
        refine o_move ?_
        refine o_off (d := 65) rfl rfl rfl rfl ?_
        refine o_off (d := 65) rfl rfl rfl rfl ?_
        refine o_off (d := 65) rfl rfl rfl rfl ?_
        refine o_pick false rfl ?_
        refine o_move ?_
        refine o_off (d := 70) rfl rfl rfl rfl ?_
        refine o_off (d := 70) rfl rfl rfl rfl ?_
        refine o_off (d := 70) rfl rfl rfl rfl ?_
        refine o_off (d := 70) rfl rfl rfl rfl ?_
        refine o_off (d := 70) rfl rfl rfl rfl ?_
        refine o_pick false rfl ?_
        refine o_nil ?_
        repeat refine wC_seq ?_
        refine wC_if false rfl ?_
        refine wC_skip ?_
        exact ⟨(fun j => todo j && j != k, cnt'), ⟨rfl, rfl, rfl, rfl, rfl, trivial⟩, H, hlt⟩
      · have h1 : ms.any (·.to == k) = false := by simpa using h1
        refine o_look (rv := false) U_3 U_27 TI_4.zero H 1 rfl rfl rfl hk.1 ((seenF_get ms k).trans h1) ?_
        by_cases h2 : k = free
        · refine o_not false rfl ?_
          refine o_move ?_
          refine o_on (d := 65) rfl rfl (fun _ _ => ?_)
          refine o_move ?_
          refine o_on (d := 65) rfl rfl (fun _ _ => ?_)
          refine o_move ?_
          refine o_on (d := 65) rfl rfl (fun _ _ => ?_)
          refine o_neq false rfl rfl (by simp [h2]) ?_
          refine o_pick true rfl ?_
          refine o_move ?_
          refine o_off (d := 70) rfl rfl rfl rfl ?_
          refine o_off (d := 70) rfl rfl rfl rfl ?_
          refine o_off (d := 70) rfl rfl rfl rfl ?_
          refine o_off (d := 70) rfl rfl rfl rfl ?_
          refine o_off (d := 70) rfl rfl rfl rfl ?_
          refine o_pick false rfl ?_
          refine o_nil ?_
          repeat refine wC_seq ?_
          refine wC_if false rfl ?_
          refine wC_skip ?_
          exact ⟨(fun j => todo j && j != k, cnt'), ⟨rfl, rfl, rfl, rfl, rfl, trivial⟩, H, hlt⟩
        · have hno : ∀ m ∈ ms, m.to ≠ k := fun m hm e => by rw [List.any_eq_false] at h1; exact h1 m hm (by simp [e])
          have hgk := hlaw2 k h2 hno
          refine o_not false rfl ?_
          refine o_move ?_
          refine o_on (d := 65) rfl rfl (fun _ _ => ?_)
          refine o_move ?_
          refine o_on (d := 65) rfl rfl (fun _ _ => ?_)
          refine o_move ?_
          refine o_on (d := 65) rfl rfl (fun _ _ => ?_)
          refine o_neq true rfl rfl (by simp [h2]) ?_
          refine o_pick true rfl ?_
          refine o_move ?_
          refine o_on (d := 70) rfl rfl (fun _ _ => ?_)
          refine o_move ?_
          refine o_on (d := 70) rfl rfl (fun _ _ => ?_)
          refine o_move ?_
          refine o_on (d := 70) rfl rfl (fun _ _ => ?_)
          refine o_look (rv := x) U_3 U_23 TI_2.zero H 0 rfl rfl rfl hk.1 (hgk.trans (by show (F k).getD 0 = x; rw [hFk]; rfl)) ?_
          refine o_on (d := 70) rfl rfl (fun _ _ => ?_)
          refine o_move ?_
          refine o_on (d := 70) rfl rfl (fun _ _ => ?_)
          refine o_neq false rfl rfl (by simp) ?_
          refine o_pick true rfl ?_
          refine o_nil ?_
          repeat refine wC_seq ?_
          refine wC_if false rfl ?_
          refine wC_skip ?_
          exact ⟨(fun j => todo j && j != k, cnt'), ⟨rfl, rfl, rfl, rfl, rfl, trivial⟩, H, hlt⟩
end Go.Proofs.Ytlpbghnphplclaa
