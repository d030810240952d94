/- The walk: from. -/
import Derived.Test.YtgcmcgbkdeealaaF6
import Derived.Test.YtgcmcgbkdeealaaG4
namespace Go.Proofs.Ytgcmcgbkdeealaa
set_option linter.unusedVariables false
set_option linter.unusedSimpArgs false
open Go Go.RowKit

theorem from_any {A : Option Addr} {n c : Nat} {ways : List (List Int)} (a x : Int) (w0 : World) (hR : Rd2 iv (okOf w0 fun _ => False) w0 A n c ways) (hn1 : n ≤ 1000) (hn2 : ∀ l ∈ ways, l.length ≤ 1000) :
    CallsV Try.prog 13 #[.slice A n c, .int .i64 a, .int .i64 x] w0 fun v w' => ∃ (bo : Nat) (r : List Bool), v = .slice (some ⟨bo, 0, none⟩) n n ∧ r.length = n ∧ (∀ k : Nat, r[k]? = some true ↔ (0 ≤ a ∧ Rch ways a.toNat x k)) ∧ St w0 (fun _ => False) [row (some ⟨bo, 0, none⟩) n n 4 1 (r.map bv)] w' := by
  obtain ⟨hn, hd, hR1, hR2⟩ := hR
  refine calls_of (args := [.slice A n c, .int .i64 a, .int .i64 x]) Try.func13 rfl rfl rfl rfl ?_
  have H := St.begin w0
  repeat refine wC_seq ?_
  refine wC_region ?_
  refine o_assign ?_
  refine o_nil ?_
  repeat refine wC_seq ?_
  refine wC_region ?_
  refine o_move ?_
  refine o_len U_22 rfl ?_
  refine o_make U_33 TI_4 (m := n) rfl rfl (by omega) H ?_; intro bo w H
  have em : (madeCells (Value.bool false).cells (n * 1)).toList = (List.replicate n false).map bv := made_b n
  rw [em] at H
  refine o_assign ?_
  refine o_nil ?_
  have none_ : (¬ 0 ≤ a ∨ ¬ a < n ∨ a = x) → ∀ k : Nat, (List.replicate n false)[k]? = some true ↔ (0 ≤ a ∧ Rch ways a.toNat x k) := by
    intro h k
    constructor
    · intro h; rw [List.getElem?_replicate] at h; split at h <;> cases h
    · rintro ⟨h1, h2⟩
      have h3 := h2.first.lt
      have h4 := h2.first.ne
      omega
  repeat refine wC_seq ?_
  refine wC_region ?_
  refine o_move ?_
  refine o_move ?_
  by_cases h1 : a = x
  · refine o_eql true rfl rfl (by simp [h1]) ?_
    refine o_move ?_
    refine o_off (d := 18) rfl rfl rfl rfl ?_
    refine o_off (d := 18) rfl rfl rfl rfl ?_
    refine o_pick true rfl ?_
    refine o_move ?_
    refine o_off (d := 22) rfl rfl rfl rfl ?_
    refine o_off (d := 22) rfl rfl rfl rfl ?_
    refine o_off (d := 22) rfl rfl rfl rfl ?_
    refine o_off (d := 22) rfl rfl rfl rfl ?_
    refine o_pick true rfl ?_
    refine o_nil ?_
    repeat refine wC_seq ?_
    refine wC_if true rfl ?_
    repeat refine wC_seq ?_
    refine wC_region ?_
    refine o_move ?_
    refine o_assign ?_
    refine o_nil ?_
    refine wC_ret ?_
    exact ⟨bo, List.replicate n false, rfl, by simp, none_ (.inr (.inr h1)), H⟩
  refine o_eql false rfl rfl (by simp [h1]) ?_
  refine o_move ?_
  refine o_on (d := 18) rfl rfl (fun _ _ => ?_)
  refine o_move ?_
  refine o_on (d := 18) rfl rfl (fun _ _ => ?_)
  by_cases h2 : 0 ≤ a
  case neg =>
    refine o_lss true rfl rfl (by simp; omega) ?_
    refine o_pick false rfl ?_
    refine o_move ?_
    refine o_off (d := 22) rfl rfl rfl rfl ?_
    refine o_off (d := 22) rfl rfl rfl rfl ?_
    refine o_off (d := 22) rfl rfl rfl rfl ?_
    refine o_off (d := 22) rfl rfl rfl rfl ?_
    refine o_pick true rfl ?_
    refine o_nil ?_
    repeat refine wC_seq ?_
    refine wC_if true rfl ?_
    repeat refine wC_seq ?_
    refine wC_region ?_
    refine o_move ?_
    refine o_assign ?_
    refine o_nil ?_
    refine wC_ret ?_
    exact ⟨bo, List.replicate n false, rfl, by simp, none_ (.inl h2), H⟩
  refine o_lss false rfl rfl (by simp; omega) ?_
  refine o_pick false rfl ?_
  refine o_move ?_
  refine o_on (d := 22) rfl rfl (fun _ _ => ?_)
  refine o_move ?_
  refine o_on (d := 22) rfl rfl (fun _ _ => ?_)
  refine o_move ?_
  refine o_on (d := 22) rfl rfl (fun _ _ => ?_)
  refine o_len U_22 rfl ?_
  refine o_on (d := 22) rfl rfl (fun _ _ => ?_)
  by_cases h3 : a < n
  case neg =>
    refine o_geq true rfl rfl (by simp; omega) ?_
    refine o_pick false rfl ?_
    refine o_nil ?_
    repeat refine wC_seq ?_
    refine wC_if true rfl ?_
    repeat refine wC_seq ?_
    refine wC_region ?_
    refine o_move ?_
    refine o_assign ?_
    refine o_nil ?_
    refine wC_ret ?_
    exact ⟨bo, List.replicate n false, rfl, by simp, none_ (.inr (.inl h3)), H⟩
  refine o_geq false rfl rfl (by simp; omega) ?_
  refine o_pick false rfl ?_
  refine o_nil ?_
  repeat refine wC_seq ?_
  refine wC_if false rfl ?_
  refine wC_skip ?_
  repeat refine wC_seq ?_
  refine wC_region ?_
  refine o_move ?_
  refine o_move ?_
  refine o_idxR U_33 TI_4 H 0 rfl rfl rfl (by omega) (by omega) ?_
  rintro a2 ha2 _
  cases ha2
  refine o_stR (v := .bool true) TI_4.size H 0 rfl (a.toNat * 1) rfl rfl (by simp [Value.cells]; omega) (by simp [Value.cells, Value.oneCell']) ?_; intro w H
  refine o_nil ?_
  have e0 : lay ((List.replicate n false).map bv) (a.toNat * 1) (Value.bool true).cells.toList = ((List.replicate n false).set a.toNat true).map bv := bvs_set _ _ true (by simp; omega)
  rw [e0] at H
  have hm0 : Mk ways a.toNat x ((List.replicate n false).set a.toNat true) := by
    have hl : ((List.replicate n false).set a.toNat true)[a.toNat]? = some true := by rw [List.getElem?_set_self (by simp; omega)]
    refine ⟨by simp [hn], fun k hk => ?_, hl⟩
    by_cases e : k = a.toNat
    · subst e; exact .refl (by omega) (by rw [Int.toNat_of_nonneg h2]; exact h1)
    · rw [List.getElem?_set_ne (Ne.symm e), List.getElem?_replicate] at hk; split at hk <;> cases hk
  have hc0 : 1 ≤ ((List.replicate n false).set a.toNat true).count true := List.count_pos_iff.2 (List.mem_of_getElem? hm0.first)
  generalize (List.replicate n false).set a.toNat true = r0 at H hm0 hc0
  repeat refine wC_seq ?_
  refine wC_region ?_
  refine o_move ?_
  refine o_len U_22 rfl ?_
  refine o_move ?_
  refine o_nil ?_
  repeat refine wC_seq ?_
  refine wC_block ?_
  refine wC_loop (σ := Nat × List Bool) (fun s => [(0, .slice A n c), (1, .int .i64 a), (2, .int .i64 x), (7, .slice (some ⟨bo, 0, none⟩) n n), (33, .int .i64 (n : Nat)), (34, .int .i64 (s.1 : Nat))])
    (fun s w' => s.1 ≤ n ∧ Mk ways a.toNat x s.2 ∧ (Cl ways x s.2 ∨ s.1 + 1 ≤ s.2.count true) ∧ St w0 (fun _ => False) [row (some ⟨bo, 0, none⟩) n n 4 1 (s.2.map bv)] w') (fun s => n - s.1)
    (0, r0) ⟨rfl, rfl, rfl, rfl, rfl, rfl, trivial⟩ ⟨Nat.zero_le _, hm0, .inr hc0, H⟩ ?_
  rintro f ⟨i, r0⟩ w1 ⟨hi, hm0, hc0, H⟩
  simp only at hi hm0 hc0 H ⊢
  repeat refine wC_seq ?_
  refine wC_region ?_
  by_cases hlt : i < n
  · refine o_lss true rfl rfl (by simp; omega) ?_
    refine o_nil ?_
    repeat refine wC_seq ?_
    refine wC_if true rfl ?_
    refine wC_skip ?_
    repeat refine wC_seq ?_
    refine wC_block ?_
    repeat refine wC_seq ?_
    refine wC_region ?_
    refine o_move ?_
    refine o_len U_22 rfl ?_
    refine o_move ?_
    refine o_nil ?_
    repeat refine wC_seq ?_
    refine wC_block ?_
    refine wC_loop (σ := Nat × List Bool) (fun s => [(0, .slice A n c), (1, .int .i64 a), (2, .int .i64 x), (7, .slice (some ⟨bo, 0, none⟩) n n), (33, .int .i64 (n : Nat)), (34, .int .i64 (i : Nat)), (36, .slice A n c), (37, .int .i64 (n : Nat)), (38, .int .i64 (s.1 : Nat))])
      (fun s w' => s.1 ≤ n ∧ Mk ways a.toNat x s.2 ∧ Sub r0 s.2 ∧ Gone ways x r0 s.2 s.1 [] ∧ (Cl ways x r0 → s.2 = r0) ∧ St w0 (fun _ => False) [row (some ⟨bo, 0, none⟩) n n 4 1 (s.2.map bv)] w') (fun s => n - s.1)
      (0, r0) ⟨rfl, rfl, rfl, rfl, rfl, rfl, rfl, rfl, rfl, trivial⟩ ⟨Nat.zero_le _, hm0, fun _ h => h, ⟨fun b' c h => absurd h (Nat.not_lt_zero _), fun _ t ht => by cases ht⟩, fun _ => rfl, H⟩ ?_
    rintro f ⟨b, r⟩ w1 ⟨hb, hm, hsub, hg, hcl, H⟩
    simp only at hb hm hsub hg hcl H ⊢
    repeat refine wC_seq ?_
    refine wC_region ?_
    by_cases hltb : b < n
    · refine o_lss true rfl rfl (by simp; omega) ?_
      refine o_nil ?_
      repeat refine wC_seq ?_
      refine wC_if true rfl ?_
      refine wC_skip ?_
      obtain ⟨l, hl⟩ : ∃ l, ways[b]? = some l := ⟨_, List.getElem?_eq_getElem (by omega)⟩
      have hll := hn2 l (List.mem_of_getElem? hl)
      obtain ⟨A', c', hh, hRl⟩ := hR2 b l hl
      repeat refine wC_seq ?_
      refine wC_block ?_
      repeat refine wC_seq ?_
      refine wC_region ?_
      refine o_move ?_
      refine o_idxS U_22 TI_35 hR1 rfl rfl (by omega) (by omega) ?_
      rintro aA rfl hCA
      refine o_ldS1 T1_35 H hCA (b * 1) rfl (by rw [Nat.mul_one]; exact hh) ?_
      refine o_assign ?_
      refine o_assign ?_
      refine o_nil ?_
      repeat refine wC_seq ?_
      refine wC_region ?_
      refine o_move ?_
      refine o_len U_35 rfl ?_
      refine o_move ?_
      refine o_nil ?_
      repeat refine wC_seq ?_
      refine wC_block ?_
      refine wC_loop (σ := Nat × List Bool) (fun s => [(0, .slice (some aA) n c), (1, .int .i64 a), (2, .int .i64 x), (7, .slice (some ⟨bo, 0, none⟩) n n), (33, .int .i64 (n : Nat)), (34, .int .i64 (i : Nat)), (36, .slice (some aA) n c), (37, .int .i64 (n : Nat)), (38, .int .i64 (b : Nat)), (8, .int .i64 (b : Nat)), (43, .slice A' l.length c'), (44, .int .i64 l.length), (45, .int .i64 (s.1 : Nat))])
        (fun s w' => s.1 ≤ l.length ∧ Mk ways a.toNat x s.2 ∧ Sub r0 s.2 ∧ Gone ways x r0 s.2 b (l.take s.1) ∧ (Cl ways x r0 → s.2 = r0) ∧ St w0 (fun _ => False) [row (some ⟨bo, 0, none⟩) n n 4 1 (s.2.map bv)] w') (fun s => l.length - s.1)
        (0, r) ⟨rfl, rfl, rfl, rfl, rfl, rfl, rfl, rfl, rfl, rfl, rfl, rfl, rfl, trivial⟩ ⟨Nat.zero_le _, hm, hsub, ⟨hg.1, fun _ t ht => by simp at ht⟩, hcl, H⟩ ?_
      rintro f ⟨j, r⟩ w1 ⟨hj, hm, hsub, hg, hcl, H⟩
      simp only at hj hm hsub hg hcl H ⊢
      repeat refine wC_seq ?_
      refine wC_region ?_
      by_cases hltj : j < l.length
      · refine o_lss true rfl rfl (by simp; omega) ?_
        refine o_nil ?_
        repeat refine wC_seq ?_
        refine wC_if true rfl ?_
        refine wC_skip ?_
        obtain ⟨to, hto⟩ : ∃ y, l[j]? = some y := ⟨_, List.getElem?_eq_getElem hltj⟩
        repeat refine wC_seq ?_
        refine wC_block ?_
        repeat refine wC_seq ?_
        refine wC_region ?_
        refine o_idxS U_35 TI_3 hRl rfl rfl (by omega) (by omega) ?_
        rintro a' rfl hC'
        refine o_ldS1 T1_3 H hC' (j * 1) rfl (v := .int .i64 to) (by rw [Nat.mul_one, List.getElem?_map, hto]; rfl) ?_
        refine o_assign ?_
        refine o_nil ?_
        repeat refine wC_seq ?_
        refine wC_region ?_
        refine o_move ?_
        refine o_move ?_
        refine o_idxR U_33 TI_4 H 0 rfl rfl rfl (by omega) (by omega) ?_
        rintro a2 ha2 _
        cases ha2
        obtain ⟨rv, hrv⟩ : ∃ rv, r[b]? = some rv := ⟨_, List.getElem?_eq_getElem (by rw [hm.len]; omega)⟩
        refine o_ldR1 T1_4 H 0 rfl (b * 1) rfl (v := .bool rv) (by rw [Nat.mul_one, List.getElem?_map, hrv]; rfl) ?_
        refine o_move ?_
        cases rv with
        | false =>
          refine o_off (d := 53) rfl rfl rfl rfl ?_
          refine o_off (d := 53) rfl rfl rfl rfl ?_
          refine o_pick false rfl ?_
          refine o_move ?_
          refine o_off (d := 57) rfl rfl rfl rfl ?_
          refine o_off (d := 57) rfl rfl rfl rfl ?_
          refine o_off (d := 57) rfl rfl rfl rfl ?_
          refine o_off (d := 57) rfl rfl rfl rfl ?_
          refine o_pick false rfl ?_
          refine o_move ?_
          refine o_off (d := 63) rfl rfl rfl rfl ?_
          refine o_off (d := 63) rfl rfl rfl rfl ?_
          refine o_off (d := 63) rfl rfl rfl rfl ?_
          refine o_pick false rfl ?_
          refine o_nil ?_
          repeat refine wC_seq ?_
          refine wC_if false rfl ?_
          refine wC_skip ?_
          repeat refine wC_seq ?_
          refine wC_region ?_
          refine o_add64 rfl rfl (by omega) ?_
          refine o_move ?_
          refine o_nil ?_
          exact ⟨(j + 1, r), ⟨rfl, rfl, rfl, rfl, rfl, rfl, rfl, rfl, rfl, rfl, rfl, rfl, rfl, trivial⟩, ⟨hltj, hm, hsub, hg.more hto (fun h => by have := hsub b h; rw [hrv] at this; cases this), hcl, H⟩, by show l.length - (j + 1) < l.length - j; omega⟩
        | true =>
          refine o_on (d := 53) rfl rfl (fun _ _ => ?_)
          refine o_move ?_
          refine o_on (d := 53) rfl rfl (fun _ _ => ?_)
          by_cases g1 : 0 ≤ to
          case neg =>
            refine o_geq false rfl rfl (by simp; omega) ?_
            refine o_pick true rfl ?_
            refine o_move ?_
            refine o_off (d := 57) rfl rfl rfl rfl ?_
            refine o_off (d := 57) rfl rfl rfl rfl ?_
            refine o_off (d := 57) rfl rfl rfl rfl ?_
            refine o_off (d := 57) rfl rfl rfl rfl ?_
            refine o_pick false rfl ?_
            refine o_move ?_
            refine o_off (d := 63) rfl rfl rfl rfl ?_
            refine o_off (d := 63) rfl rfl rfl rfl ?_
            refine o_off (d := 63) rfl rfl rfl rfl ?_
            refine o_pick false rfl ?_
            refine o_nil ?_
            repeat refine wC_seq ?_
            refine wC_if false rfl ?_
            refine wC_skip ?_
            repeat refine wC_seq ?_
            refine wC_region ?_
            refine o_add64 rfl rfl (by omega) ?_
            refine o_move ?_
            refine o_nil ?_
            exact ⟨(j + 1, r), ⟨rfl, rfl, rfl, rfl, rfl, rfl, rfl, rfl, rfl, rfl, rfl, rfl, rfl, trivial⟩, ⟨hltj, hm, hsub, hg.more hto (fun _ h => absurd h g1), hcl, H⟩, by show l.length - (j + 1) < l.length - j; omega⟩
          refine o_geq true rfl rfl (by simp; omega) ?_
          refine o_pick true rfl ?_
          refine o_move ?_
          refine o_on (d := 57) rfl rfl (fun _ _ => ?_)
          refine o_move ?_
          refine o_on (d := 57) rfl rfl (fun _ _ => ?_)
          refine o_move ?_
          refine o_on (d := 57) rfl rfl (fun _ _ => ?_)
          refine o_len U_22 rfl ?_
          refine o_on (d := 57) rfl rfl (fun _ _ => ?_)
          by_cases g2 : to < n
          case neg =>
            refine o_lss false rfl rfl (by simp; omega) ?_
            refine o_pick true rfl ?_
            refine o_move ?_
            refine o_off (d := 63) rfl rfl rfl rfl ?_
            refine o_off (d := 63) rfl rfl rfl rfl ?_
            refine o_off (d := 63) rfl rfl rfl rfl ?_
            refine o_pick false rfl ?_
            refine o_nil ?_
            repeat refine wC_seq ?_
            refine wC_if false rfl ?_
            refine wC_skip ?_
            repeat refine wC_seq ?_
            refine wC_region ?_
            refine o_add64 rfl rfl (by omega) ?_
            refine o_move ?_
            refine o_nil ?_
            exact ⟨(j + 1, r), ⟨rfl, rfl, rfl, rfl, rfl, rfl, rfl, rfl, rfl, rfl, rfl, rfl, rfl, trivial⟩, ⟨hltj, hm, hsub, hg.more hto (fun _ _ h => absurd h (by omega)), hcl, H⟩, by show l.length - (j + 1) < l.length - j; omega⟩
          refine o_lss true rfl rfl (by simp; omega) ?_
          refine o_pick true rfl ?_
          refine o_move ?_
          refine o_on (d := 63) rfl rfl (fun _ _ => ?_)
          refine o_move ?_
          refine o_on (d := 63) rfl rfl (fun _ _ => ?_)
          refine o_move ?_
          refine o_on (d := 63) rfl rfl (fun _ _ => ?_)
          by_cases g3 : to = x
          · refine o_neq false rfl rfl (by simp [g3]) ?_
            refine o_pick true rfl ?_
            refine o_nil ?_
            repeat refine wC_seq ?_
            refine wC_if false rfl ?_
            refine wC_skip ?_
            repeat refine wC_seq ?_
            refine wC_region ?_
            refine o_add64 rfl rfl (by omega) ?_
            refine o_move ?_
            refine o_nil ?_
            exact ⟨(j + 1, r), ⟨rfl, rfl, rfl, rfl, rfl, rfl, rfl, rfl, rfl, rfl, rfl, rfl, rfl, trivial⟩, ⟨hltj, hm, hsub, hg.more hto (fun _ _ _ h => absurd g3 h), hcl, H⟩, by show l.length - (j + 1) < l.length - j; omega⟩
          have hE : E ways b to.toNat := ⟨l, hl, by rw [Int.toNat_of_nonneg g1]; exact List.mem_of_getElem? hto, by omega⟩
          have hne : ((to.toNat : Nat) : Int) ≠ x := by rw [Int.toNat_of_nonneg g1]; exact g3
          obtain ⟨k1, k2, k3⟩ := hm.mark hrv hE hne
          refine o_neq true rfl rfl (by simp [g3]) ?_
          refine o_pick true rfl ?_
          refine o_nil ?_
          repeat refine wC_seq ?_
          refine wC_if true rfl ?_
          repeat refine wC_seq ?_
          refine wC_region ?_
          refine o_move ?_
          refine o_move ?_
          refine o_idxR U_33 TI_4 H 0 rfl rfl rfl (by omega) (by omega) ?_
          rintro a2 ha2 _
          cases ha2
          refine o_stR (v := .bool true) TI_4.size H 0 rfl (to.toNat * 1) rfl rfl (by simp [Value.cells, hm.len]; omega) (by simp [Value.cells, Value.oneCell']) ?_; intro w H
          refine o_nil ?_
          have e0 : lay (r.map bv) (to.toNat * 1) (Value.bool true).cells.toList = (r.set to.toNat true).map bv := bvs_set _ _ true (by rw [hm.len]; omega)
          rw [e0] at H
          repeat refine wC_seq ?_
          refine wC_region ?_
          refine o_add64 rfl rfl (by omega) ?_
          refine o_move ?_
          refine o_nil ?_
          exact ⟨(j + 1, r.set to.toNat true), ⟨rfl, rfl, rfl, rfl, rfl, rfl, rfl, rfl, rfl, rfl, rfl, rfl, rfl, trivial⟩, ⟨hltj, k1, fun k hk => k2 k (hsub k hk), (hg.mono k2).more hto fun _ _ _ _ => k3, still_closed hcl hrv hE hne, H⟩, by show l.length - (j + 1) < l.length - j; omega⟩
      · refine o_lss false rfl rfl (by simp; omega) ?_
        refine o_nil ?_
        repeat refine wC_seq ?_
        refine wC_if false rfl ?_
        refine wC_exit ?_
        repeat refine wC_seq ?_
        refine wC_region ?_
        refine o_add64 rfl rfl (by omega) ?_
        refine o_move ?_
        refine o_nil ?_
        rw [List.take_of_length_le (by omega)] at hg
        exact ⟨(b + 1, r), ⟨rfl, rfl, rfl, rfl, rfl, rfl, rfl, rfl, rfl, trivial⟩, ⟨hltb, hm, hsub, hg.row hl, hcl, H⟩, by show n - (b + 1) < n - b; omega⟩
    · refine o_lss false rfl rfl (by simp; omega) ?_
      refine o_nil ?_
      repeat refine wC_seq ?_
      refine wC_if false rfl ?_
      refine wC_exit ?_
      obtain rfl : b = n := by omega
      repeat refine wC_seq ?_
      refine wC_region ?_
      refine o_add64 rfl rfl (by omega) ?_
      refine o_move ?_
      refine o_nil ?_
      refine ⟨(i + 1, r), ⟨rfl, rfl, rfl, rfl, rfl, rfl, trivial⟩, ⟨hlt, hm, ?_, H⟩, by show b - (i + 1) < b - i; omega⟩
      rw [← hn] at hg
      exact round_end (hm0.len.trans hm.len.symm) hsub hm.len hg hcl hc0
  · refine o_lss false rfl rfl (by simp; omega) ?_
    refine o_nil ?_
    repeat refine wC_seq ?_
    refine wC_if false rfl ?_
    refine wC_exit ?_
    obtain rfl : i = n := by omega
    repeat refine wC_seq ?_
    refine wC_region ?_
    refine o_move ?_
    refine o_assign ?_
    refine o_nil ?_
    refine wC_ret ?_
    rw [← hn] at hc0
    refine ⟨bo, r0, rfl, hm0.len.trans hn, fun k => ?_, H⟩
    rw [hm0.end_ (rounds_end hm0.len hc0)]
    simp [h2]
end Go.Proofs.Ytgcmcgbkdeealaa
