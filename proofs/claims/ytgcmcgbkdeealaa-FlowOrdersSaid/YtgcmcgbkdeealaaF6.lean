/- The walk: Doms. -/
import Derived.Test.YtgcmcgbkdeealaaF5
namespace Go.Proofs.Ytgcmcgbkdeealaa
set_option linter.unusedVariables false
set_option linter.unusedSimpArgs false
open Go Go.RowKit

def RowOk (ways : List (List Int)) (n b : Nat) (x : Hd Bool) (k : Nat) : Prop := x.2.length = n ∧ ∀ j, j < k → (x.2[j]? = some true ↔ (Rch ways 0 (-1) b ∧ (b = 0 → j = 0)))
def Ph (ways : List (List Int)) (n b : Nat) (hs : List (Hd Bool)) : Prop := hs.length = n ∧ (∀ (q : Nat) x, q < b → hs[q]? = some x → RowOk ways n q x n) ∧ ∀ (q : Nat) x, b ≤ q → hs[q]? = some x → x = ((none, 0), [])
def Pi' (ways : List (List Int)) (n b k : Nat) (hs : List (Hd Bool)) : Prop := hs.length = n ∧ (∀ (q : Nat) x, q < b → hs[q]? = some x → RowOk ways n q x n) ∧ (∃ x, hs[b]? = some x ∧ RowOk ways n b x k) ∧ ∀ (q : Nat) x, b < q → hs[q]? = some x → x = ((none, 0), [])

theorem Ph.row {ways : List (List Int)} {n b : Nat} {hs : List (Hd Bool)} (h : Ph ways n b hs) (hb : b < n) (x : Hd Bool) (hx : x.2.length = n) : Pi' ways n b 0 (hs.set b x) := by
  refine ⟨by rw [List.length_set]; exact h.1, fun q y hq hy => ?_, ⟨x, List.getElem?_set_self (by rw [h.1]; exact hb), hx, fun j hj => absurd hj (Nat.not_lt_zero _)⟩, fun q y hq hy => ?_⟩
  · rw [List.getElem?_set_ne (by omega)] at hy; exact h.2.1 q y hq hy
  · rw [List.getElem?_set_ne (by omega)] at hy; exact h.2.2 q y (by omega) hy
theorem Pi'.step {ways : List (List Int)} {n b k : Nat} {hs : List (Hd Bool)} (h : Pi' ways n b k hs) (hk : k < n) {x : Hd Bool} (hx : hs[b]? = some x) {v : Bool} (hv : v = true ↔ (Rch ways 0 (-1) b ∧ (b = 0 → k = 0))) : Pi' ways n b (k + 1) (hs.set b (x.1, x.2.set k v)) := by
  have hbl := (List.getElem?_eq_some_iff.1 hx).1
  obtain ⟨h1, h2, ⟨x', hx', h3, h4⟩, h5⟩ := h
  rw [hx] at hx'; cases hx'
  refine ⟨by rw [List.length_set]; exact h1, fun q y hq hy => ?_, ⟨_, List.getElem?_set_self hbl, by simpa using h3, fun j hj => ?_⟩, fun q y hq hy => ?_⟩
  · rw [List.getElem?_set_ne (by omega)] at hy; exact h2 q y hq hy
  · simp only
    by_cases e : j = k
    · subst e
      rw [List.getElem?_set_self (by omega)]
      simpa using hv
    · rw [List.getElem?_set_ne (Ne.symm e)]; exact h4 j (by omega)
  · rw [List.getElem?_set_ne (by omega)] at hy; exact h5 q y hq hy
theorem Pi'.done {ways : List (List Int)} {n b : Nat} {hs : List (Hd Bool)} (h : Pi' ways n b n hs) : Ph ways n (b + 1) hs := by
  obtain ⟨h1, h2, ⟨x', hx', h3⟩, h5⟩ := h
  refine ⟨h1, fun q y hq hy => ?_, fun q y hq hy => h5 q y (by omega) hy⟩
  by_cases e : q = b
  · subst e; rw [hx'] at hy; cases hy; exact h3
  · exact h2 q y (by omega) hy
theorem Ph.doing {ways : List (List Int)} {n : Nat} {hs : List (Hd Bool)} (hn : ways.length = n) (h : Ph ways n n hs) : Doing ways n hs := by
  obtain ⟨h1, h2, _⟩ := h
  have row : ∀ {b : Nat} {x : Hd Bool}, hs[b]? = some x → RowOk ways n b x n := fun {b x} hx => h2 b x (by have := (List.getElem?_eq_some_iff.1 hx).1; omega) hx
  refine ⟨⟨h1, fun q x hx => (row hx).1⟩, fun b k hb hk hd => ?_, fun b k hm => ?_⟩
  · have hx : hs[b]? = some (hs[b]'(by omega)) := List.getElem?_eq_getElem _
    refine ⟨_, hx, ((row hx).2 k hk).2 ⟨hd.1, fun h0 => ?_⟩⟩
    subst h0
    apply Classical.byContradiction
    intro hk0
    exact hd.2 (.refl (by omega) (by omega))
  · obtain ⟨x, hx, hx2⟩ := hm
    have hk : k < n := by have := (List.getElem?_eq_some_iff.1 hx2).1; rw [(row hx).1] at this; exact this
    exact ((row hx).2 k hk).1 hx2

theorem doms_any {p : Addr} {n : Nat} {ways : List (List Int)} (w0 : World) (hG : RdG (okOf w0 fun _ => False) w0 p n ways) :
    CallsV Try.prog 12 #[.pointer (some p)] w0 fun v w' => ∃ (bo : Nat) (hs : List (Hd Bool)), v = .slice (some ⟨bo, 0, none⟩) n n ∧ Sq n hs ∧ (∀ b k, b < n → k < n → (M hs b k ↔ Dom ways b k)) ∧ St w0 (fun _ => False) [row (some ⟨bo, 0, none⟩) n n 33 1 (hs.map hdv), star (hs.map (hrow bv 4))] w' := by
  have hG0 := hG
  obtain ⟨h1, hn1, h3, Bo, cbo, Bi, cbi, Br, cbr, r, hC, h5, h6, h7, h8, h9⟩ := hG
  refine calls_of (args := [.pointer (some p)]) Try.func12 rfl rfl rfl rfl ?_
  have H := St.begin w0
  repeat refine wC_seq ?_
  refine wC_region ?_
  refine o_assign ?_
  refine o_nil ?_
  repeat refine wC_seq ?_
  refine wC_region ?_
  refine o_move ?_
  refine o_callF F_17 rfl (len_any w0 hG0) ?_; rintro v w ⟨rfl, hs⟩
  have H := H.idle hs
  refine o_assign ?_
  refine o_nil ?_
  repeat refine wC_seq ?_
  refine wC_region ?_
  refine o_move ?_
  refine o_make U_25 TI_33 (m := n) rfl rfl (by omega) H ?_; intro bo w H
  have em : (madeCells (Value.slice none 0 0).cells (n * 1)).toList = (List.replicate n (((none, 0), []) : Hd Bool)).map hdv := by
    have := made_s n
    rw [show (madeCells (Value.slice none 0 0).cells (n * 1)).toList = (madeCells #[Value.slice none 0 0] (n * 1)).toList from rfl, this]
    simp [List.map_replicate, hdv]
  rw [em] at H
  have H := H.nils bv 4 n
  refine o_assign ?_
  refine o_nil ?_
  repeat refine wC_seq ?_
  refine wC_region ?_
  refine o_move ?_
  refine o_len U_25 rfl ?_
  refine o_move ?_
  refine o_nil ?_
  repeat refine wC_seq ?_
  refine wC_block ?_
  refine wC_loop (σ := Nat × List (Hd Bool)) (fun s => [(0, .pointer (some p)), (3, .int .i64 (n : Nat)), (4, .slice (some ⟨bo, 0, none⟩) n n), (14, .int .i64 (n : Nat)), (15, .int .i64 (s.1 : Nat))])
    (fun s w' => s.1 ≤ n ∧ Ph ways n s.1 s.2 ∧ St w0 (fun _ => False) [row (some ⟨bo, 0, none⟩) n n 33 1 (s.2.map hdv), star (s.2.map (hrow bv 4))] w') (fun s => n - s.1)
    (0, List.replicate n ((none, 0), [])) ⟨rfl, rfl, rfl, rfl, rfl, trivial⟩ ⟨Nat.zero_le _, ⟨by simp, fun q x hq => absurd hq (Nat.not_lt_zero _), fun q x _ hx => by rw [List.getElem?_replicate] at hx; split at hx <;> cases hx; rfl⟩, H⟩ ?_
  rintro f ⟨b, hs⟩ w1 ⟨hb, hP, H⟩
  simp only at hb hP H ⊢
  repeat refine wC_seq ?_
  refine wC_region ?_
  by_cases hlt : b < n
  · refine o_lss true rfl rfl (by simp; omega) ?_
    refine o_nil ?_
    repeat refine wC_seq ?_
    refine wC_if true rfl ?_
    refine wC_skip ?_
    repeat refine wC_seq ?_
    refine wC_block ?_
    repeat refine wC_seq ?_
    refine wC_region ?_
    refine o_move ?_
    refine o_assign ?_
    refine o_nil ?_
    repeat refine wC_seq ?_
    refine wC_region ?_
    refine o_move ?_
    refine o_move ?_
    refine o_move ?_
    obtain ⟨x0, hx0⟩ : ∃ x, hs[b]? = some x := ⟨_, List.getElem?_eq_getElem (by rw [hP.1]; exact hlt)⟩
    have H := (H.pull 1 rfl b (R := hrow bv 4 x0) (by rw [List.getElem?_map, hx0]; rfl)).drop 2
    refine o_make U_33 TI_4 (m := n) rfl rfl (by omega) H ?_; intro b21 w H
    have em : (madeCells (Value.bool false).cells (n * 1)).toList = (List.replicate n false).map bv := made_b n
    rw [em] at H
    refine o_idxR U_25 TI_33 H 0 rfl rfl rfl (by omega) (by omega) ?_
    rintro a2 ha2 _
    cases ha2
    refine o_stR (v := .slice (some ⟨b21, 0, none⟩) n n) TI_33.size H 0 rfl (b * 1) rfl rfl (by simp [Value.cells, hP.1]; omega) (by simp [Value.cells, Value.oneCell']) ?_; intro w H
    refine o_nil ?_
    have hset : lay (hs.map hdv) (b * 1) (Value.slice (some ⟨b21, 0, none⟩) n n).cells.toList = (hs.set b (((some ⟨b21, 0, none⟩, n), List.replicate n false))).map hdv := by
      show lay (hs.map hdv) (b * 1) [Value.slice (some ⟨b21, 0, none⟩) n n] = _
      rw [Nat.mul_one, lay_one _ _ _ (by simp [hP.1]; exact hlt), List.map_set]; simp [hdv]
    rw [hset] at H
    have H := H.push (L1 := [_, _]) 1 b rfl (by simp [hP.1]; exact hlt)
    have hhr : row (some ⟨b21, 0, none⟩) n n 4 1 ((List.replicate n false).map bv) = hrow bv 4 (((some ⟨b21, 0, none⟩, n), List.replicate n false)) := by unfold hrow; simp
    rw [hhr, ← List.map_set] at H
    have hPi := hP.row hlt (((some ⟨b21, 0, none⟩, n), List.replicate n false)) (by simp)
    generalize hs.set b (((some ⟨b21, 0, none⟩, n), List.replicate n false)) = hs at H hPi
    repeat refine wC_seq ?_
    refine wC_region ?_
    refine o_move ?_
    refine o_move ?_
    refine o_idxR U_25 TI_33 H 0 rfl rfl rfl (by omega) (by omega) ?_
    rintro a2 ha2 _
    cases ha2
    obtain ⟨x, hx, hxl, _⟩ := hPi.2.2.1
    refine o_ldR1 T1_33 H 0 rfl (b * 1) rfl (v := .slice x.1.1 x.2.length x.1.2) (hd_at hx) ?_
    refine o_len U_33 rfl ?_
    rw [hxl]
    refine o_move ?_
    refine o_nil ?_
    clear hset hhr em
    repeat refine wC_seq ?_
    refine wC_block ?_
    refine wC_loop (σ := Nat × List (Hd Bool)) (fun s => [(0, .pointer (some p)), (3, .int .i64 (n : Nat)), (4, .slice (some ⟨bo, 0, none⟩) n n), (5, .int .i64 (b : Nat)), (14, .int .i64 (n : Nat)), (15, .int .i64 (b : Nat)), (27, .int .i64 (n : Nat)), (28, .int .i64 (s.1 : Nat))])
      (fun s w' => s.1 ≤ n ∧ Pi' ways n b s.1 s.2 ∧ St w0 (fun _ => False) [row (some ⟨bo, 0, none⟩) n n 33 1 (s.2.map hdv), star (s.2.map (hrow bv 4))] w') (fun s => n - s.1)
      (0, hs) ⟨rfl, rfl, rfl, rfl, rfl, rfl, rfl, rfl, trivial⟩ ⟨Nat.zero_le _, hPi, H⟩ ?_
    rintro f ⟨k, hs⟩ w1 ⟨hk, hPi, H⟩
    simp only at hk hPi H ⊢
    repeat refine wC_seq ?_
    refine wC_region ?_
    by_cases hltk : k < n
    · refine o_lss true rfl rfl (by simp; omega) ?_
      refine o_nil ?_
      repeat refine wC_seq ?_
      refine wC_if true rfl ?_
      refine wC_skip ?_
      obtain ⟨x, hx, hxl, _⟩ := hPi.2.2.1
      repeat refine wC_seq ?_
      refine wC_block ?_
      repeat refine wC_seq ?_
      refine wC_region ?_
      refine o_move ?_
      refine o_assign ?_
      refine o_nil ?_
      repeat refine wC_seq ?_
      refine wC_mix (J := fun w' => ∃ L', St w0 (fun _ => False) (row (some ⟨bo, 0, none⟩) n n 33 1 (hs.map hdv) :: star (hs.map (hrow bv 4)) :: L') w') 16 [0, 1, 2, 3, 4, 5, 6] [7, 8, 9, 10, 11, 12, 13, 14, 15] ?F1 fo (by kernel_rfl) ⟨_, H.idle (Step.drew w1 _)⟩ ?_ ?_
      rotate_left
      · rintro w3 ⟨L', H⟩
        refine o_move ?_
        refine o_move ?_
        refine o_idxR U_25 TI_33 H 0 rfl rfl rfl (by omega) (by omega) ?_
        rintro a2 ha2 _
        cases ha2
        refine o_ldR1 T1_33 H 0 rfl (b * 1) rfl (v := hdv x) (hd_at hx) ?_
        refine o_move ?_
        refine o_move ?_
        refine o_move ?_
        refine o_nil ?_
        exact rfl
      have H := H.idle (Step.drew w1 _)
      refine o_callF F_19 rfl (in_any (b : Int) _ (hG0.loc H.ok0)) ?_; rintro v w ⟨⟨y, rfl, hy⟩, hs9⟩
      have H := H.idle hs9
      have hy : y = true ↔ Rch ways 0 (-1) b := by rw [hy, Int.toNat_natCast]; simp
      refine o_nil ?_
      refine ⟨⟨_, H⟩, ?_⟩
      refine o_move ?_
      refine o_nil ?_
      refine ⟨⟨_, H⟩, ?_⟩
      cases y with
      | false =>
        refine o_off (d := 39) rfl rfl rfl rfl ?_
        refine o_nil ?_
        refine ⟨⟨_, H⟩, ?_⟩
        refine o_off (d := 39) rfl rfl rfl rfl ?_
        refine o_nil ?_
        refine ⟨⟨_, H⟩, ?_⟩
        refine o_off (d := 39) rfl rfl rfl rfl ?_
        refine o_nil ?_
        refine ⟨⟨_, H⟩, ?_⟩
        refine o_offU (d := 42) rfl rfl rfl rfl ?_
        refine o_nil ?_
        refine ⟨⟨_, H⟩, ?_⟩
        refine o_offU (d := 42) rfl rfl rfl rfl ?_
        refine o_nil ?_
        refine ⟨⟨_, H⟩, ?_⟩
        refine o_off (d := 39) rfl rfl rfl rfl ?_
        refine o_nil ?_
        refine ⟨⟨_, H⟩, ?_⟩
        refine o_pick false rfl ?_
        refine o_nil ?_
        refine ⟨⟨_, H⟩, ?_⟩
        refine o_idxM U_33 TI_4 H 1 rfl hx rfl rfl (by omega) (by omega) ?_
        rintro ax hax
        refine o_stM (v := false) rfl rfl T1_4.sz H 1 rfl hx hax k rfl rfl (by omega) ?_; intro w H
        refine o_nil ?_
        repeat refine wC_seq ?_
        refine wC_region ?_
        refine o_add64 rfl rfl (by omega) ?_
        refine o_move ?_
        refine o_nil ?_
        rw [← hdv_set hx] at H
        exact ⟨(k + 1, hs.set b (x.1, x.2.set k false)), ⟨rfl, rfl, rfl, rfl, rfl, rfl, rfl, rfl, trivial⟩, ⟨hltk, hPi.step hltk hx (⟨fun h => (by cases h), fun h => hy.2 h.1⟩), H⟩, by show n - (k + 1) < n - k; omega⟩
      | true =>
        by_cases hb0 : 0 < b
        · refine o_on (d := 39) rfl rfl (fun _ _ => ?_)
          refine o_move ?_
          refine o_nil ?_
          refine ⟨⟨_, H⟩, ?_⟩
          refine o_on (d := 39) rfl rfl (fun _ _ => ?_)
          refine o_gtr true rfl rfl (by simp; omega) ?_
          refine o_nil ?_
          refine ⟨⟨_, H⟩, ?_⟩
          refine o_on (d := 39) rfl rfl (fun _ _ => ?_)
          refine o_move ?_
          refine o_nil ?_
          refine ⟨⟨_, H⟩, ?_⟩
          refine o_off (d := 42) rfl rfl rfl rfl ?_
          refine o_nil ?_
          refine ⟨⟨_, H⟩, ?_⟩
          refine o_off (d := 42) rfl rfl rfl rfl ?_
          refine o_nil ?_
          refine ⟨⟨_, H⟩, ?_⟩
          refine o_on (d := 39) rfl rfl (fun _ _ => ?_)
          refine o_pick true rfl ?_
          refine o_nil ?_
          refine ⟨⟨_, H⟩, ?_⟩
          refine o_pick true rfl ?_
          refine o_nil ?_
          refine ⟨⟨_, H⟩, ?_⟩
          refine o_idxM U_33 TI_4 H 1 rfl hx rfl rfl (by omega) (by omega) ?_
          rintro ax hax
          refine o_stM (v := true) rfl rfl T1_4.sz H 1 rfl hx hax k rfl rfl (by omega) ?_; intro w H
          refine o_nil ?_
          repeat refine wC_seq ?_
          refine wC_region ?_
          refine o_add64 rfl rfl (by omega) ?_
          refine o_move ?_
          refine o_nil ?_
          rw [← hdv_set hx] at H
          exact ⟨(k + 1, hs.set b (x.1, x.2.set k true)), ⟨rfl, rfl, rfl, rfl, rfl, rfl, rfl, rfl, trivial⟩, ⟨hltk, hPi.step hltk hx (⟨fun _ => ⟨hy.1 rfl, fun h => by omega⟩, fun _ => rfl⟩), H⟩, by show n - (k + 1) < n - k; omega⟩
        by_cases hk0 : k = 0
        · refine o_on (d := 39) rfl rfl (fun _ _ => ?_)
          refine o_move ?_
          refine o_nil ?_
          refine ⟨⟨_, H⟩, ?_⟩
          refine o_on (d := 39) rfl rfl (fun _ _ => ?_)
          refine o_gtr false rfl rfl (by simp; omega) ?_
          refine o_nil ?_
          refine ⟨⟨_, H⟩, ?_⟩
          refine o_on (d := 39) rfl rfl (fun _ _ => ?_)
          refine o_move ?_
          refine o_nil ?_
          refine ⟨⟨_, H⟩, ?_⟩
          refine o_on (d := 42) rfl rfl (fun _ _ => ?_)
          refine o_move ?_
          refine o_nil ?_
          refine ⟨⟨_, H⟩, ?_⟩
          refine o_on (d := 42) rfl rfl (fun _ _ => ?_)
          refine o_eql true rfl rfl (by simp; omega) ?_
          refine o_nil ?_
          refine ⟨⟨_, H⟩, ?_⟩
          refine o_on (d := 39) rfl rfl (fun _ _ => ?_)
          refine o_pick false rfl ?_
          refine o_nil ?_
          refine ⟨⟨_, H⟩, ?_⟩
          refine o_pick true rfl ?_
          refine o_nil ?_
          refine ⟨⟨_, H⟩, ?_⟩
          refine o_idxM U_33 TI_4 H 1 rfl hx rfl rfl (by omega) (by omega) ?_
          rintro ax hax
          refine o_stM (v := true) rfl rfl T1_4.sz H 1 rfl hx hax k rfl rfl (by omega) ?_; intro w H
          refine o_nil ?_
          repeat refine wC_seq ?_
          refine wC_region ?_
          refine o_add64 rfl rfl (by omega) ?_
          refine o_move ?_
          refine o_nil ?_
          rw [← hdv_set hx] at H
          exact ⟨(k + 1, hs.set b (x.1, x.2.set k true)), ⟨rfl, rfl, rfl, rfl, rfl, rfl, rfl, rfl, trivial⟩, ⟨hltk, hPi.step hltk hx (⟨fun _ => ⟨hy.1 rfl, fun _ => hk0⟩, fun _ => rfl⟩), H⟩, by show n - (k + 1) < n - k; omega⟩
        refine o_on (d := 39) rfl rfl (fun _ _ => ?_)
        refine o_move ?_
        refine o_nil ?_
        refine ⟨⟨_, H⟩, ?_⟩
        refine o_on (d := 39) rfl rfl (fun _ _ => ?_)
        refine o_gtr false rfl rfl (by simp; omega) ?_
        refine o_nil ?_
        refine ⟨⟨_, H⟩, ?_⟩
        refine o_on (d := 39) rfl rfl (fun _ _ => ?_)
        refine o_move ?_
        refine o_nil ?_
        refine ⟨⟨_, H⟩, ?_⟩
        refine o_on (d := 42) rfl rfl (fun _ _ => ?_)
        refine o_move ?_
        refine o_nil ?_
        refine ⟨⟨_, H⟩, ?_⟩
        refine o_on (d := 42) rfl rfl (fun _ _ => ?_)
        refine o_eql false rfl rfl (by simp; omega) ?_
        refine o_nil ?_
        refine ⟨⟨_, H⟩, ?_⟩
        refine o_on (d := 39) rfl rfl (fun _ _ => ?_)
        refine o_pick false rfl ?_
        refine o_nil ?_
        refine ⟨⟨_, H⟩, ?_⟩
        refine o_pick true rfl ?_
        refine o_nil ?_
        refine ⟨⟨_, H⟩, ?_⟩
        refine o_idxM U_33 TI_4 H 1 rfl hx rfl rfl (by omega) (by omega) ?_
        rintro ax hax
        refine o_stM (v := false) rfl rfl T1_4.sz H 1 rfl hx hax k rfl rfl (by omega) ?_; intro w H
        refine o_nil ?_
        repeat refine wC_seq ?_
        refine wC_region ?_
        refine o_add64 rfl rfl (by omega) ?_
        refine o_move ?_
        refine o_nil ?_
        rw [← hdv_set hx] at H
        exact ⟨(k + 1, hs.set b (x.1, x.2.set k false)), ⟨rfl, rfl, rfl, rfl, rfl, rfl, rfl, rfl, trivial⟩, ⟨hltk, hPi.step hltk hx (⟨fun h => (by cases h), fun h => absurd (h.2 (by omega)) hk0⟩), H⟩, by show n - (k + 1) < n - k; omega⟩
    · refine o_lss false rfl rfl (by simp; omega) ?_
      refine o_nil ?_
      repeat refine wC_seq ?_
      refine wC_if false rfl ?_
      refine wC_exit ?_
      obtain rfl : k = n := by omega
      repeat refine wC_seq ?_
      refine wC_region ?_
      refine o_add64 rfl rfl (by omega) ?_
      refine o_move ?_
      refine o_nil ?_
      exact ⟨(b + 1, hs), ⟨rfl, rfl, rfl, rfl, rfl, trivial⟩, ⟨hlt, hPi.done, H⟩, by show k - (b + 1) < k - b; omega⟩
  · refine o_lss false rfl rfl (by simp; omega) ?_
    refine o_nil ?_
    repeat refine wC_seq ?_
    refine wC_if false rfl ?_
    refine wC_exit ?_
    obtain rfl : b = n := by omega
    have hD := hP.doing h1
    repeat refine wC_seq ?_
    refine wC_region ?_
    refine o_assign ?_
    refine o_nil ?_
    repeat refine wC_seq ?_
    refine wC_block ?_
    refine wC_loop (σ := Bool × List (Hd Bool)) (fun s => [(0, .pointer (some p)), (3, .int .i64 (b : Nat)), (4, .slice (some ⟨bo, 0, none⟩) b b), (7, .bool s.1)])
      (fun s w' => Doing ways b s.2 ∧ (s.1 = false → ∀ c, 1 ≤ c → c < b → Rch ways 0 (-1) c → Calm ways s.2 c) ∧ St w0 (fun _ => False) [row (some ⟨bo, 0, none⟩) b b 33 1 (s.2.map hdv), star (s.2.map (hrow bv 4))] w') (fun s => 2 * cnt s.2 + (bif s.1 then 1 else 0))
      (true, hs) ⟨rfl, rfl, rfl, rfl, trivial⟩ ⟨hD, fun h => (by cases h), H⟩ ?_
    rintro f ⟨t, hs⟩ w2 ⟨hD, hc, H⟩
    simp only at hD hc H ⊢
    repeat refine wC_seq ?_
    refine wC_region ?_
    refine o_move ?_
    refine o_nil ?_
    repeat refine wC_seq ?_
    cases t with
    | false =>
      refine wC_if false rfl ?_
      refine wC_exit ?_
      repeat refine wC_seq ?_
      refine wC_region ?_
      refine o_move ?_
      refine o_assign ?_
      refine o_nil ?_
      refine wC_ret ?_
      exact ⟨bo, hs, rfl, hD.sq, fun c k hc' hk => hD.end_ h1 (hc rfl) hc' hk, H⟩
    | true =>
      refine wC_if true rfl ?_
      refine wC_skip ?_
      repeat refine wC_seq ?_
      refine wC_block ?_
      repeat refine wC_seq ?_
      refine wC_region ?_
      refine o_assign ?_
      refine o_nil ?_
      repeat refine wC_seq ?_
      refine wC_region ?_
      refine o_assign ?_
      refine o_nil ?_
      repeat refine wC_seq ?_
      refine wC_block ?_
      have hsl : ∃ hsS, hsS = hs := ⟨_, rfl⟩
      obtain ⟨hsS, hS⟩ := hsl
      refine wC_loop (σ := Nat × Bool × List (Hd Bool)) (fun s => [(0, .pointer (some p)), (3, .int .i64 (b : Nat)), (4, .slice (some ⟨bo, 0, none⟩) b b), (7, .bool s.2.1), (8, .int .i64 (s.1 : Nat))])
        (fun s w' => 1 ≤ s.1 ∧ Doing ways b s.2.2 ∧ (s.2.1 = false → s.2.2 = hsS ∧ ∀ c, 1 ≤ c → c < s.1 → c < b → Rch ways 0 (-1) c → Calm ways s.2.2 c) ∧ (s.2.1 = true → cnt s.2.2 < cnt hsS) ∧ St w0 (fun _ => False) [row (some ⟨bo, 0, none⟩) b b 33 1 (s.2.2.map hdv), star (s.2.2.map (hrow bv 4))] w') (fun s => b - s.1)
        (1, false, hs) ⟨rfl, rfl, rfl, rfl, rfl, trivial⟩ ⟨Nat.le_refl _, hD, fun _ => ⟨hS.symm, fun c h1 h2 => by omega⟩, fun h => (by cases h), H⟩ ?_
      rintro f ⟨c, t, hs2⟩ w3 ⟨hc1, hD2, hcf, hct, H⟩
      simp only at hc1 hD2 hcf hct H ⊢
      repeat refine wC_seq ?_
      refine wC_region ?_
      refine o_move ?_
      refine o_move ?_
      by_cases hlt2 : c < b
      · refine o_lss true rfl rfl (by simp; omega) ?_
        refine o_nil ?_
        repeat refine wC_seq ?_
        refine wC_if true rfl ?_
        refine wC_skip ?_
        repeat refine wC_seq ?_
        refine wC_block ?_
        repeat refine wC_seq ?_
        refine wC_region ?_
        refine o_move ?_
        refine o_move ?_
        refine o_callF F_19 rfl (in_any (c : Int) w3 (hG0.loc H.ok0)) ?_; rintro v w ⟨⟨y, rfl, hy⟩, hs9⟩
        have H := H.idle hs9
        have hy : y = true ↔ Rch ways 0 (-1) c := by rw [hy, Int.toNat_natCast]; simp
        refine o_nil ?_
        repeat refine wC_seq ?_
        cases y with
        | false =>
          refine wC_if false rfl ?_
          refine wC_skip ?_
          repeat refine wC_seq ?_
          refine wC_region ?_
          refine o_move ?_
          refine o_add64 rfl rfl (by omega) ?_
          refine o_assign ?_
          refine o_nil ?_
          refine ⟨(c + 1, t, hs2), ⟨rfl, rfl, rfl, rfl, rfl, trivial⟩, ⟨by show 1 ≤ c + 1; omega, hD2, fun ht => ⟨(hcf ht).1, fun c' h1' h2' h3' hr => ?_⟩, hct, H⟩, by show b - (c + 1) < b - c; omega⟩
          by_cases e : c' = c
          · subst e; have := hy.2 hr; cases this
          · exact (hcf ht).2 c' h1' (by have : c' < c + 1 := h2'; omega) h3' hr
        | true =>
          refine wC_if true rfl ?_
          repeat refine wC_seq ?_
          refine wC_region ?_
          refine o_move ?_
          refine o_move ?_
          refine o_move ?_
          obtain ⟨f1, hsf, hfb, hback⟩ := H.call (L1 := [_, _]) (L2 := [])
          refine o_callF F_20 rfl (meet_any c hlt2 w f1 (hG0.loc (H.ok hfb)) hD2 (St.start hsf)) ?_
          rintro v w' ⟨t2, hs3, rfl, hmet, H2⟩
          have H9 := hback _ _ H2
          clear H
          cases t2 with
          | true =>
            refine o_move ?_
            refine o_off (d := 63) rfl rfl rfl rfl ?_
            refine o_pick true rfl ?_
            refine o_assign ?_
            refine o_nil ?_
            repeat refine wC_seq ?_
            refine wC_region ?_
            refine o_move ?_
            refine o_add64 rfl rfl (by omega) ?_
            refine o_assign ?_
            refine o_nil ?_
            refine ⟨(c + 1, true, hs3), ⟨rfl, rfl, rfl, rfl, rfl, trivial⟩, ⟨by show 1 ≤ c + 1; omega, hmet.1, fun ht => (by cases ht), fun _ => ?_, H9⟩, by show b - (c + 1) < b - c; omega⟩
            have := hmet.2.2 rfl
            show cnt hs3 < cnt hsS
            cases ht : t with
            | false => rw [(hcf ht).1] at this; exact this
            | true => have := hct ht; omega
          | false =>
            obtain ⟨hsame, hcalm⟩ := hmet.2.1 rfl
            subst hsame
            refine o_move ?_
            refine o_on (d := 63) rfl rfl (fun _ _ => ?_)
            refine o_move ?_
            refine o_pick false rfl ?_
            refine o_assign ?_
            refine o_nil ?_
            repeat refine wC_seq ?_
            refine wC_region ?_
            refine o_move ?_
            refine o_add64 rfl rfl (by omega) ?_
            refine o_assign ?_
            refine o_nil ?_
            refine ⟨(c + 1, t, hs3), ⟨rfl, rfl, rfl, rfl, rfl, trivial⟩, ⟨by show 1 ≤ c + 1; omega, hmet.1, fun ht => ⟨(hcf ht).1, fun c' h1' h2' h3' hr => ?_⟩, hct, H9⟩, by show b - (c + 1) < b - c; omega⟩
            by_cases e : c' = c
            · subst e; exact hcalm
            · exact (hcf ht).2 c' h1' (by have : c' < c + 1 := h2'; omega) h3' hr
      · refine o_lss false rfl rfl (by simp; omega) ?_
        refine o_nil ?_
        repeat refine wC_seq ?_
        refine wC_if false rfl ?_
        refine wC_exit ?_
        refine ⟨(t, hs2), ⟨rfl, rfl, rfl, rfl, trivial⟩, ⟨hD2, fun ht c' h1' h2' hr => (hcf ht).2 c' h1' (by omega) h2' hr, H⟩, ?_⟩
        show 2 * cnt hs2 + (bif t then 1 else 0) < 2 * cnt hs + 1
        cases ht : t with
        | false => rw [(hcf ht).1, hS]; simp
        | true => have := hct ht; rw [hS] at this; simp; omega
end Go.Proofs.Ytgcmcgbkdeealaa
