/- The walk: Reach. -/
import Derived.Test.YtgcmcgbkdeealaaF1
import Derived.Test.YtgcmcgbkdeealaaG1
namespace Go.Proofs.Ytgcmcgbkdeealaa
set_option linter.unusedVariables false
set_option linter.unusedSimpArgs false
open Go Go.RowKit

abbrev nv : Nat → Value := fun k => .int .i64 (k : Int)
theorem bvs_one (r : List Bool) : ∀ u ∈ r.map bv, u.oneCell' = true := by
  intro u hu
  obtain ⟨x, _, rfl⟩ := List.mem_map.1 hu
  rfl
theorem nvs_one (r : List Nat) : ∀ u ∈ r.map nv, u.oneCell' = true := by
  intro u hu
  obtain ⟨x, _, rfl⟩ := List.mem_map.1 hu
  rfl
theorem ivs_one (r : List Int) : ∀ u ∈ r.map iv, u.oneCell' = true := by
  intro u hu
  obtain ⟨x, _, rfl⟩ := List.mem_map.1 hu
  rfl
theorem bvs_set (r : List Bool) (i : Nat) (b : Bool) (hi : i < r.length) : lay (r.map bv) (i * 1) [.bool b] = (r.set i b).map bv := by
  rw [Nat.mul_one, lay_one _ _ _ (by simpa using hi), List.map_set]
theorem made_b (n : Nat) : (madeCells #[.bool false] (n * 1)).toList = (List.replicate n false).map bv := by
  have := made_flat #[.bool false] n
  simp only [List.size_toArray, List.length_singleton] at this
  rw [this]
  simp [List.map_replicate]

theorem reach_any {A : Option Addr} {n c : Nat} {ways : List (List Int)} (w0 : World) (hF : RdF (okOf w0 fun _ => False) w0 A n c ways) (hn1 : n ≤ 1000) (hn2 : ∀ l ∈ ways, l.length ≤ 1000) :
    CallsV Try.prog 18 #[fval A n c] w0 fun v w' => ∃ (A' : Option Addr) (c' : Nat) (r : List Bool), v = .slice A' n c' ∧ r.length = n ∧ (∀ k : Nat, r[k]? = some true ↔ Rch ways 0 (-1) k) ∧ St w0 (fun _ => False) [row A' n c' 4 1 (r.map bv)] w' := by
  obtain ⟨hn, cs, hR1, hcu, hR2⟩ := hF
  refine calls_of (args := [fval A n c]) Try.func18 rfl rfl rfl rfl ?_
  have H := St.begin w0
  repeat refine wC_seq ?_
  refine wC_region ?_
  refine o_box (v := fval A n c) rfl H ?_; intro b1 w H
  refine o_assign ?_
  refine o_nil ?_
  repeat refine wC_seq ?_
  refine wC_region ?_
  refine o_fld (fl := fd_30_1) (m := 0) U_30 rfl (T1_28.sz) rfl ?_
  refine o_ldB1 T1_28 H 0 rfl (o := 1) rfl rfl ?_
  refine o_len U_28 rfl ?_
  refine o_make U_33 TI_4 (m := n) rfl rfl (by omega) H ?_; intro b11 w H
  refine o_assign ?_
  refine o_nil ?_
  have em : (madeCells (Value.bool false).cells (n * 1)).toList = (List.replicate n false).map bv := made_b n
  rw [em] at H
  repeat refine wC_seq ?_
  refine wC_region ?_
  refine o_move ?_
  refine o_len U_33 rfl ?_
  by_cases h0 : n = 0
  · subst h0
    refine o_eql true rfl rfl (by simp) ?_
    refine o_nil ?_
    repeat refine wC_seq ?_
    refine wC_if true rfl ?_
    repeat refine wC_seq ?_
    refine wC_region ?_
    refine o_move ?_
    refine o_assign ?_
    refine o_nil ?_
    refine wC_ret ?_
    refine ⟨some ⟨b11, 0, none⟩, 0, [], rfl, rfl, fun k => ⟨fun h => by simp at h, fun h => by have := h.lt; omega⟩, H.drop 0⟩
  refine o_eql false rfl rfl (by simp; omega) ?_
  refine o_nil ?_
  repeat refine wC_seq ?_
  refine wC_if false rfl ?_
  refine wC_skip ?_
  repeat refine wC_seq ?_
  refine wC_region ?_
  refine o_move ?_
  refine o_idxR U_33 TI_4 H 1 rfl rfl rfl (by omega) (by omega) ?_
  rintro a11 ha11 hsp
  cases ha11
  refine o_stR (v := .bool true) TI_4.size H 1 rfl (0 * 1) rfl rfl (by simp [Value.cells]; omega) (by simp [Value.cells, Value.oneCell']) ?_; intro w H
  refine o_nil ?_
  have e0 : lay ((List.replicate n false).map bv) (0 * 1) (Value.bool true).cells.toList = ((List.replicate n false).set 0 true).map bv := bvs_set _ 0 true (by simp; omega)
  rw [e0] at H
  repeat refine wC_seq ?_
  refine wC_region ?_
  refine o_lit (pv := [(0, .int .i64 0)]) (cells := [0].map nv) U_35 TI_3 (by decide) rfl (by simp [Value.cells]) rfl H ?_; intro b18 w H
  refine o_assign ?_
  refine o_nil ?_
  repeat refine wC_seq ?_
  refine wC_block ?_
  refine wC_loop (σ := List Bool × List Nat × Option Addr × Nat) (fun s => [(1, .pointer (some ⟨b1, 0, none⟩)), (3, .slice (some ⟨b11, 0, none⟩) n n), (4, .slice s.2.2.1 s.2.1.length s.2.2.2)])
    (fun s w' => Bfs ways s.1 s.2.1 (fun _ => True) ∧ 2 * s.1.count false + s.2.1.length ≤ 2 * n + 1 ∧ St w0 (fun _ => False) [blk b1 30 [.string ⟨#[]⟩, .slice A n c], row (some ⟨b11, 0, none⟩) n n 4 1 (s.1.map bv), row s.2.2.1 s.2.1.length s.2.2.2 3 1 (s.2.1.map nv)] w') (fun s => 2 * s.1.count false + s.2.1.length)
    ((List.replicate n false).set 0 true, [0], some ⟨b18, 0, none⟩, 1) ⟨rfl, rfl, rfl, trivial⟩ ⟨by rw [← hn]; exact Bfs.begin (by omega), ?_, H⟩ ?_
  · show 2 * ((List.replicate n false).set 0 true).count false + 1 ≤ 2 * n + 1
    have := List.count_le_length (a := false) (l := (List.replicate n false).set 0 true)
    simp at this
    omega
  rintro f ⟨r, todo, T, cT⟩ w1 ⟨hb, hmu, H⟩
  simp only at hb hmu H ⊢
  have hrl := hb.len
  repeat refine wC_seq ?_
  refine wC_region ?_
  refine o_move ?_
  refine o_len U_35 rfl ?_
  cases todo with
  | nil =>
    refine o_gtr false rfl rfl (by simp) ?_
    refine o_nil ?_
    repeat refine wC_seq ?_
    refine wC_if false rfl ?_
    refine wC_exit ?_
    repeat refine wC_seq ?_
    refine wC_region ?_
    refine o_move ?_
    refine o_assign ?_
    refine o_nil ?_
    refine wC_ret ?_
    exact ⟨_, _, r, rfl, by omega, hb.end_, (H.drop 2).drop 0⟩
  | cons t todo =>
    have htr := hb.inTodo t (by simp)
    have htn : t < n := by have := (List.getElem?_eq_some_iff.1 htr).1; omega
    obtain ⟨l, hl⟩ : ∃ l, ways[t]? = some l := ⟨_, List.getElem?_eq_getElem (by omega)⟩
    have hll := hn2 l (List.mem_of_getElem? hl)
    obtain ⟨A', c', hcs, hRl⟩ := hR2 t l hl
    have hE : ∀ (j : Nat) (x : Int), l[j]? = some x → 0 ≤ x → x < n → E ways t x.toNat := fun j x hx h1 h2 => ⟨l, hl, by rw [Int.toNat_of_nonneg h1]; exact List.mem_of_getElem? hx, by omega⟩
    refine o_gtr true rfl rfl (by simp) ?_
    refine o_nil ?_
    repeat refine wC_seq ?_
    refine wC_if true rfl ?_
    refine wC_skip ?_
    repeat refine wC_seq ?_
    refine wC_block ?_
    repeat refine wC_seq ?_
    have hT : ∃ T', T = some T' := by
      obtain ⟨f1, hA, _⟩ := H.focus 2 rfl
      obtain ⟨a, h, _⟩ := row.adr hA (by simp)
      exact ⟨a, h⟩
    obtain ⟨T', rfl⟩ := hT
    obtain ⟨aA, rfl, hCA⟩ : ∃ aA, A = some aA ∧ Cells (okOf w0 fun _ => False) w0 aA cs := by
      rcases hR1.2.2.2 with h | h
      · omega
      · exact h
    refine wC_mix (J := fun w' => ∃ L', St w0 (fun _ => False) (blk b1 30 [.string ⟨#[]⟩, .slice (some aA) n c] :: row (some ⟨b11, 0, none⟩) n n 4 1 (r.map bv) :: row (some T') (t :: todo).length cT 3 1 ((t :: todo).map nv) :: L') w') 8 [0, 1, 2, 3, 4, 5, 6] [7] ?F fo (by kernel_rfl) ⟨_, H.idle (Step.drew w1 _)⟩ ?_ ?_
    rotate_left
    · rintro w3 ⟨L', H⟩
      refine o_fld (fl := fd_30_1) (m := 0) U_30 rfl (T1_28.sz) rfl ?_
      refine o_ldB1 T1_28 H 0 rfl (o := 1) rfl rfl ?_
      refine o_move ?_
      refine o_idxR U_35 TI_3 H 2 rfl rfl rfl (by omega) (by simp) ?_
      rintro a' ha hsp
      cases ha
      refine o_ldR1 T1_3 H 2 rfl (0 * 1) rfl (v := nv t) rfl ?_
      refine o_idxS U_28 TI_50 hR1 rfl rfl (by omega) (by omega) ?_
      rintro a' ha hC
      cases ha
      refine o_ldSA TA_50 H hCA (t * 6) rfl (by rw [hR1.1]; omega) ?_
      refine o_nil ?_
      exact rfl
    have H := H.idle (Step.drew w1 _)
    refine o_alloc TI_50.zero H ?_; intro b5 w H
    refine o_nil ?_
    refine ⟨⟨_, H⟩, ?_⟩
    have hct : t * 6 + 6 ≤ cs.length := by rw [hR1.1]; omega
    have hbl : ((cs.drop (t * 6)).take 6).length = 6 := by simp; omega
    refine o_stB (v := .agg ((cs.drop (t * 6)).take 6).toArray) (fun w => by have := TI_50.size w; rw [this]; simp [Value.cells]; omega) H 3 rfl rfl rfl (by simp [Value.cells]; omega) (by
      intro u hu
      have hu : u ∈ (cs.drop (t * 6)).take 6 := hu
      exact hcu u (List.mem_of_mem_drop (List.mem_of_mem_take hu))) ?_; intro w H
    refine o_nil ?_
    have eb : lay (Value.agg #[.slice none 0 0, .slice none 0 0, .int .i64 0, .int .i64 0, .slice none 0 0, .int .i64 0]).cells.toList 0 (Value.agg ((cs.drop (t * 6)).take 6).toArray).cells.toList = (cs.drop (t * 6)).take 6 := lay_all _ _ (by show ((cs.drop (t * 6)).take 6).length = 6; exact hbl)
    rw [eb] at H
    have hb := hb.pop
    have H := H.turn 2 rfl fun g hg => row.cutL hg 1 (by simp)
    repeat refine wC_seq ?_
    refine wC_region ?_
    refine o_move ?_
    refine o_cutL U_35 TI_3 rfl rfl (by omega) (by simp; omega) ?_
    refine o_assign ?_
    refine o_nil ?_
    repeat refine wC_seq ?_
    refine wC_region ?_
    refine o_fld (fl := fd_50_2) (m := 3) U_50 rfl (TA_48.sz) rfl ?_
    refine o_fld (fl := fd_48_2) (m := 0) U_48 rfl (T1_45.sz) rfl ?_
    refine o_ldB1 T1_45 H 3 rfl (o := 4) rfl (v := .slice A' l.length c') (by rw [List.getElem?_take_of_lt (by omega), List.getElem?_drop]; exact hcs) ?_
    refine o_len U_45 rfl ?_
    refine o_move ?_
    refine o_nil ?_
    have H : St w0 (fun _ => False) [blk b1 30 [.string ⟨#[]⟩, .slice (some aA) n c], row (some ⟨b11, 0, none⟩) n n 4 1 (r.map bv), row (if cT = 1 then some T' else some (T'.add (1 * 1))) todo.length (cT - 1) 3 1 (todo.map nv)] w := H.drop 3
    obtain ⟨M, hM⟩ : ∃ M, M = 2 * r.count false + todo.length := ⟨_, rfl⟩
    have hMlt : M < 2 * r.count false + (t :: todo).length := by rw [hM]; simp
    have hMn : M ≤ 2 * n := by simp at hmu; omega
    repeat refine wC_seq ?_
    refine wC_block ?_
    refine wC_loop (σ := Nat × List Bool × List Nat × Option Addr × Nat) (fun s => [(1, .pointer (some ⟨b1, 0, none⟩)), (3, .slice (some ⟨b11, 0, none⟩) n n), (4, .slice s.2.2.2.1 s.2.2.1.length s.2.2.2.2), (33, .slice A' l.length c'), (34, .int .i64 l.length), (35, .int .i64 (s.1 : Nat))])
      (fun s w' => s.1 ≤ l.length ∧ Bfs ways s.2.1 s.2.2.1 (fun x => x ≠ t) ∧ 2 * s.2.1.count false + s.2.2.1.length ≤ M ∧ Marked n s.2.1 (l.take s.1) ∧ s.2.1[t]? = some true ∧ St w0 (fun _ => False) [blk b1 30 [.string ⟨#[]⟩, .slice (some aA) n c], row (some ⟨b11, 0, none⟩) n n 4 1 (s.2.1.map bv), row s.2.2.2.1 s.2.2.1.length s.2.2.2.2 3 1 (s.2.2.1.map nv)] w') (fun s => l.length - s.1)
      (0, r, todo, (if cT = 1 then some T' else some (T'.add (1 * 1))), cT - 1) ⟨rfl, rfl, rfl, rfl, rfl, rfl, trivial⟩ ⟨Nat.zero_le _, hb, Nat.le_of_eq hM.symm, fun x hx => (by simp at hx), htr, H⟩ ?_
    clear H hb htr hmu hM
    rintro f ⟨j, r, todo, T, cT⟩ w1 ⟨hj, hb, hmu2, hdone, htr, H⟩
    simp only at hj hb hmu2 hdone htr H ⊢
    have hrl := hb.len
    repeat refine wC_seq ?_
    refine wC_region ?_
    by_cases hltj : j < l.length
    · refine o_lss true rfl rfl (by simp; omega) ?_
      refine o_nil ?_
      repeat refine wC_seq ?_
      refine wC_if true rfl ?_
      refine wC_skip ?_
      obtain ⟨to, hto⟩ : ∃ x, l[j]? = some x := ⟨_, List.getElem?_eq_getElem hltj⟩
      repeat refine wC_seq ?_
      refine wC_block ?_
      repeat refine wC_seq ?_
      refine wC_region ?_
      refine o_idxS U_45 TI_52 hRl rfl rfl (by omega) (by omega) ?_
      rintro a' rfl hC'
      refine o_ldSA TA_52 H hC' (j * 2) rfl (by rw [flat_len (ec_len l)]; omega) ?_
      rw [flat_at (ec_len l) hto]
      refine o_alloc TI_52.zero H ?_; intro b7 w H
      refine o_stB (v := .agg (ecells to).toArray) TI_52.size H 3 rfl rfl rfl (Nat.le_refl 2) (by simp [ecells, Value.cells, Value.oneCell']) ?_; intro w H
      refine o_nil ?_
      repeat refine wC_seq ?_
      refine wC_region ?_
      refine o_fld (fl := fd_52_0) (m := 0) U_52 rfl (T1_3.sz) rfl ?_
      refine o_ldB1 T1_3 H 3 rfl (o := 0) rfl (v := .int .i64 to) rfl ?_
      by_cases h1 : 0 ≤ to
      case neg =>
        refine o_geq false rfl rfl (by simp; omega) ?_
        refine o_move ?_
        refine o_off (d := 42) rfl rfl rfl rfl ?_
        refine o_off (d := 42) rfl rfl rfl rfl ?_
        refine o_off (d := 42) rfl rfl rfl rfl ?_
        refine o_off (d := 42) rfl rfl rfl rfl ?_
        refine o_off (d := 42) rfl rfl rfl rfl ?_
        refine o_pick false rfl ?_
        refine o_move ?_
        refine o_off (d := 49) rfl rfl rfl rfl ?_
        refine o_off (d := 49) rfl rfl rfl rfl ?_
        refine o_off (d := 49) rfl rfl rfl rfl ?_
        refine o_off (d := 49) rfl rfl rfl rfl ?_
        refine o_off (d := 49) rfl rfl rfl rfl ?_
        refine o_off (d := 49) rfl rfl rfl rfl ?_
        refine o_pick false rfl ?_
        refine o_nil ?_
        repeat refine wC_seq ?_
        refine wC_if false rfl ?_
        refine wC_skip ?_
        repeat refine wC_seq ?_
        refine wC_region ?_
        refine o_add64 rfl rfl (by omega) ?_
        refine o_move ?_
        refine o_nil ?_
        exact ⟨(j + 1, r, todo, T, cT), ⟨rfl, rfl, rfl, rfl, rfl, rfl, trivial⟩, ⟨hltj, hb, hmu2, hdone.succ hto (fun h _ => absurd h h1), htr, H.drop 3⟩, by show l.length - (j + 1) < l.length - j; omega⟩
      refine o_geq true rfl rfl (by simp; omega) ?_
      refine o_move ?_
      refine o_on (d := 42) rfl rfl (fun _ _ => ?_)
      refine o_fld (fl := fd_52_0) (m := 0) U_52 rfl (T1_3.sz) rfl ?_
      refine o_on (d := 42) rfl rfl (fun _ _ => ?_)
      refine o_ldB1 T1_3 H 3 rfl (o := 0) rfl (v := .int .i64 to) rfl ?_
      refine o_on (d := 42) rfl rfl (fun _ _ => ?_)
      refine o_move ?_
      refine o_on (d := 42) rfl rfl (fun _ _ => ?_)
      refine o_len U_33 rfl ?_
      refine o_on (d := 42) rfl rfl (fun _ _ => ?_)
      by_cases h2 : to < n
      case neg =>
        refine o_lss false rfl rfl (by simp; omega) ?_
        refine o_pick true rfl ?_
        refine o_move ?_
        refine o_off (d := 49) rfl rfl rfl rfl ?_
        refine o_off (d := 49) rfl rfl rfl rfl ?_
        refine o_off (d := 49) rfl rfl rfl rfl ?_
        refine o_off (d := 49) rfl rfl rfl rfl ?_
        refine o_off (d := 49) rfl rfl rfl rfl ?_
        refine o_off (d := 49) rfl rfl rfl rfl ?_
        refine o_pick false rfl ?_
        refine o_nil ?_
        repeat refine wC_seq ?_
        refine wC_if false rfl ?_
        refine wC_skip ?_
        repeat refine wC_seq ?_
        refine wC_region ?_
        refine o_add64 rfl rfl (by omega) ?_
        refine o_move ?_
        refine o_nil ?_
        exact ⟨(j + 1, r, todo, T, cT), ⟨rfl, rfl, rfl, rfl, rfl, rfl, trivial⟩, ⟨hltj, hb, hmu2, hdone.succ hto (fun _ h => absurd h h2), htr, H.drop 3⟩, by show l.length - (j + 1) < l.length - j; omega⟩
      refine o_lss true rfl rfl (by simp; omega) ?_
      refine o_pick true rfl ?_
      refine o_move ?_
      refine o_on (d := 49) rfl rfl (fun _ _ => ?_)
      refine o_move ?_
      refine o_on (d := 49) rfl rfl (fun _ _ => ?_)
      refine o_fld (fl := fd_52_0) (m := 0) U_52 rfl (T1_3.sz) rfl ?_
      refine o_on (d := 49) rfl rfl (fun _ _ => ?_)
      refine o_ldB1 T1_3 H 3 rfl (o := 0) rfl (v := .int .i64 to) rfl ?_
      refine o_on (d := 49) rfl rfl (fun _ _ => ?_)
      refine o_idxR U_33 TI_4 H 1 rfl rfl rfl (by omega) (by omega) ?_
      rintro a2 ha2 hsp2
      cases ha2
      refine o_on (d := 49) rfl rfl (fun _ _ => ?_)
      obtain ⟨rv, hrv⟩ : ∃ rv, r[to.toNat]? = some rv := ⟨_, List.getElem?_eq_getElem (by omega)⟩
      refine o_ldR1 T1_4 H 1 rfl (to.toNat * 1) rfl (v := .bool rv) (by rw [Nat.mul_one, List.getElem?_map, hrv]; rfl) ?_
      refine o_on (d := 49) rfl rfl (fun _ _ => ?_)
      refine o_not rv rfl ?_
      refine o_pick true rfl ?_
      cases rv with
      | true =>
        refine o_nil ?_
        repeat refine wC_seq ?_
        refine wC_if false rfl ?_
        refine wC_skip ?_
        repeat refine wC_seq ?_
        refine wC_region ?_
        refine o_add64 rfl rfl (by omega) ?_
        refine o_move ?_
        refine o_nil ?_
        exact ⟨(j + 1, r, todo, T, cT), ⟨rfl, rfl, rfl, rfl, rfl, rfl, trivial⟩, ⟨hltj, hb, hmu2, hdone.succ hto (fun _ _ => hrv), htr, H.drop 3⟩, by show l.length - (j + 1) < l.length - j; omega⟩
      | false =>
        refine o_nil ?_
        repeat refine wC_seq ?_
        refine wC_if true rfl ?_
        repeat refine wC_seq ?_
        refine wC_region ?_
        refine o_move ?_
        refine o_fld (fl := fd_52_0) (m := 0) U_52 rfl (T1_3.sz) rfl ?_
        refine o_ldB1 T1_3 H 3 rfl (o := 0) rfl (v := .int .i64 to) rfl ?_
        refine o_idxR U_33 TI_4 H 1 rfl rfl rfl (by omega) (by omega) ?_
        rintro a2 ha2 hsp2
        cases ha2
        refine o_stR (v := .bool true) TI_4.size H 1 rfl (to.toNat * 1) rfl rfl (by simp [Value.cells]; omega) (by simp [Value.cells, Value.oneCell']) ?_; intro w H
        refine o_nil ?_
        have e0 : lay (r.map bv) (to.toNat * 1) (Value.bool true).cells.toList = (r.set to.toNat true).map bv := bvs_set _ _ true (by omega)
        rw [e0] at H
        repeat refine wC_seq ?_
        refine wC_region ?_
        refine o_move ?_
        refine o_fld (fl := fd_52_0) (m := 0) U_52 rfl (T1_3.sz) rfl ?_
        refine o_ldB1 T1_3 H 3 rfl (o := 0) rfl (v := .int .i64 to) rfl ?_
        refine o_lit (pv := [(0, .int .i64 to)]) (cells := [to.toNat].map nv) U_35 TI_3 (by decide) rfl (by simp [Value.cells]) (by show [Value.int .i64 to] = [Value.int .i64 (to.toNat : Int)]; rw [Int.toNat_of_nonneg h1]) H ?_; intro b64 w H
        refine o_appR U_35 TI_3 H 2 4 rfl rfl rfl rfl (nvs_one _) (by omega) ?_; intro T' cT' w H
        refine o_assign ?_
        refine o_nil ?_
        repeat refine wC_seq ?_
        refine wC_region ?_
        refine o_add64 rfl rfl (by omega) ?_
        refine o_move ?_
        refine o_nil ?_
        have hcount := count_set hrv
        have el : (todo ++ [to.toNat]).length = todo.length + 1 := by simp
        refine ⟨(j + 1, r.set to.toNat true, todo ++ [to.toNat], T', cT'), ⟨rfl, rfl, congrArg (fun l => Value.slice T' l cT') el.symm, rfl, rfl, rfl, trivial⟩, ⟨hltj, hb.mark htr (hE j to hto h1 h2) hrv, ?_, ?_, (set_get hrv t).2 (.inr htr), ?_⟩, by show l.length - (j + 1) < l.length - j; omega⟩
        · show 2 * (r.set to.toNat true).count false + (todo ++ [to.toNat]).length ≤ _
          omega
        · exact (hdone.set hrv).succ hto fun _ _ => (set_get hrv _).2 (.inl rfl)
        · show St w0 (fun _ => False) [_, _, row T' (todo ++ [to.toNat]).length cT' 3 1 ((todo ++ [to.toNat]).map nv)] w
          rw [el, List.map_append]
          exact (H.drop 4).drop 3
    · refine o_lss false rfl rfl (by simp; omega) ?_
      refine o_nil ?_
      repeat refine wC_seq ?_
      refine wC_if false rfl ?_
      refine wC_exit ?_
      obtain rfl : j = l.length := by omega
      rw [List.take_length] at hdone
      refine ⟨(r, todo, T, cT), ⟨rfl, rfl, rfl, trivial⟩, ⟨hb.over fun c hc => ?_, by show 2 * r.count false + todo.length ≤ 2 * n + 1; omega, H⟩, Nat.lt_of_le_of_lt hmu2 hMlt⟩
      obtain ⟨l', hl', hcl, hcn⟩ := hc
      rw [hl] at hl'; cases hl'
      have := hdone _ hcl (by omega) (by omega)
      simpa using this
end Go.Proofs.Ytgcmcgbkdeealaa
