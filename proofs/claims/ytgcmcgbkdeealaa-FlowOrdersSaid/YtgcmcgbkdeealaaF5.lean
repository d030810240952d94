/- The walk: meet. -/
import Derived.Test.YtgcmcgbkdeealaaF4
import Derived.Test.YtgcmcgbkdeealaaG3
import Derived.Test.YtgcmcgbkdeealaaKz
namespace Go.Proofs.Ytgcmcgbkdeealaa
set_option linter.unusedVariables false
set_option linter.unusedSimpArgs false
open Go Go.RowKit

theorem hd_at {α : Type} {hs : List (Hd α)} {q : Nat} {x : Hd α} (h : hs[q]? = some x) : (hs.map hdv)[q * 1]? = some (hdv x) := by
  rw [Nat.mul_one, List.getElem?_map, h]; rfl

/-- Behind meet. -/
def Met (ways : List (List Int)) (n b : Nat) (hs0 hs : List (Hd Bool)) (t : Bool) : Prop :=
  Doing ways n hs ∧ (t = false → hs = hs0 ∧ Calm ways hs b) ∧ (t = true → cnt hs < cnt hs0)
/-- On the way. -/
def Meeting (ways : List (List Int)) (n b : Nat) (hs0 hs : List (Hd Bool)) (t : Bool) (k : Nat) : Prop :=
  Doing ways n hs ∧ (t = false → hs = hs0 ∧ ∀ k', k' < k → k' ≠ b → M hs b k' → ∀ q, E ways q b → Rch ways 0 (-1) q → M hs q k') ∧ (t = true → cnt hs < cnt hs0)
theorem Meeting.next {ways : List (List Int)} {n b : Nat} {hs0 hs : List (Hd Bool)} {t : Bool} {k : Nat} (h : Meeting ways n b hs0 hs t k) (hk : t = false → k ≠ b → M hs b k → ∀ q, E ways q b → Rch ways 0 (-1) q → M hs q k) : Meeting ways n b hs0 hs t (k + 1) :=
  ⟨h.1, fun ht => ⟨(h.2.1 ht).1, fun k' hk' => by
    rcases Nat.lt_or_ge k' k with h' | h'
    · exact (h.2.1 ht).2 k' h'
    · obtain rfl : k' = k := by omega
      exact hk ht⟩, h.2.2⟩

theorem meet_any {p : Addr} {n : Nat} {ways : List (List Int)} {Ao : Option Addr} {co : Nat} {hs0 : List (Hd Bool)} (b : Nat) (hbn : b < n) (w0 : World) (f0 : FP) (hG : RdG (okOf w0 f0) w0 p n ways) (hd0 : Doing ways n hs0) (H : St w0 f0 [row Ao n co 33 1 (hs0.map hdv), star (hs0.map (hrow bv 4))] w0) :
    CallsV Try.prog 20 #[.pointer (some p), .slice Ao n co, .int .i64 (b : Nat)] w0 fun v w' => ∃ (t : Bool) (hs : List (Hd Bool)), v = .bool t ∧ Met ways n b hs0 hs t ∧ St w0 f0 [row Ao n co 33 1 (hs.map hdv), star (hs.map (hrow bv 4))] w' := by
  have hG0 := hG
  obtain ⟨h1, h2, h3, Bo, cbo, Bi, cbi, Br, cbr, r, hC, h5, h6, h7, h8, h9⟩ := hG
  obtain ⟨_, his, hRi, hRR⟩ := h6
  obtain ⟨Ab, cb, hsb, hRb⟩ := hRR b _ (insL_at hbn)
  refine calls_of (args := [.pointer (some p), .slice Ao n co, .int .i64 (b : Nat)]) Try.func20 rfl rfl rfl rfl ?_
  repeat refine wC_seq ?_
  refine wC_region ?_
  refine o_assign ?_
  refine o_nil ?_
  repeat refine wC_seq ?_
  refine wC_region ?_
  refine o_assign ?_
  refine o_nil ?_
  repeat refine wC_seq ?_
  refine wC_region ?_
  refine o_move ?_
  refine o_move ?_
  refine o_idxR U_25 TI_33 H 0 rfl rfl rfl (by omega) (by omega) ?_
  rintro ao rfl hspo
  obtain ⟨x0, hx0⟩ : ∃ x, hs0[b]? = some x := ⟨_, List.getElem?_eq_getElem (by rw [hd0.sq.1]; exact hbn)⟩
  have hx0l := hd0.sq.2 b x0 hx0
  refine o_ldR1 T1_33 H 0 rfl (b * 1) rfl (v := .slice x0.1.1 x0.2.length x0.1.2) (hd_at hx0) ?_
  refine o_len U_33 rfl ?_
  rw [hx0l]
  refine o_move ?_
  refine o_nil ?_
  repeat refine wC_seq ?_
  refine wC_block ?_
  refine wC_loop (σ := Nat × Bool × List (Hd Bool)) (fun s => [(0, .pointer (some p)), (1, .slice (some ao) n co), (2, .int .i64 (b : Nat)), (7, .bool s.2.1), (15, .int .i64 (n : Nat)), (16, .int .i64 (s.1 : Nat))])
    (fun s w' => s.1 ≤ n ∧ Meeting ways n b hs0 s.2.2 s.2.1 s.1 ∧ St w0 f0 [row (some ao) n co 33 1 (s.2.2.map hdv), star (s.2.2.map (hrow bv 4))] w') (fun s => n - s.1)
    (0, false, hs0) ⟨rfl, rfl, rfl, rfl, rfl, rfl, trivial⟩ ⟨Nat.zero_le _, ⟨hd0, fun _ => ⟨rfl, fun k' hk' => absurd hk' (Nat.not_lt_zero _)⟩, fun h => by cases h⟩, H⟩ ?_
  rintro f ⟨k, t, hs⟩ w1 ⟨hk, hm, H⟩
  simp only at hk hm H ⊢
  repeat refine wC_seq ?_
  refine wC_region ?_
  by_cases hlt : k < n
  · refine o_lss true rfl rfl (by simp; omega) ?_
    refine o_nil ?_
    repeat refine wC_seq ?_
    refine wC_if true rfl ?_
    refine wC_skip ?_
    refine wC_cut (σ := Bool × List (Hd Bool)) (fun s => [(0, .pointer (some p)), (1, .slice (some ao) n co), (2, .int .i64 (b : Nat)), (7, .bool s.1), (15, .int .i64 (n : Nat)), (16, .int .i64 (k : Nat))])
      (fun s w' => Meeting ways n b hs0 s.2 s.1 (k + 1) ∧ St w0 f0 [row (some ao) n co 33 1 (s.2.map hdv), star (s.2.map (hrow bv 4))] w') ?_ ?_
    rotate_left
    · rintro f ⟨t, hs⟩ w ⟨hm, H⟩
      refine wC_region ?_
      refine o_add64 rfl rfl (by omega) ?_
      refine o_move ?_
      refine o_nil ?_
      exact ⟨(k + 1, t, hs), ⟨rfl, rfl, rfl, rfl, rfl, rfl, trivial⟩, ⟨hlt, hm, H⟩, by show n - (k + 1) < n - k; omega⟩
    refine wC_block ?_
    repeat refine wC_seq ?_
    refine wC_region ?_
    refine o_move ?_
    refine o_assign ?_
    refine o_nil ?_
    repeat refine wC_seq ?_
    refine wC_region ?_
    refine o_move ?_
    refine o_move ?_
    refine o_idxR U_25 TI_33 H 0 rfl rfl rfl (by omega) (by omega) ?_
    rintro a2 ha2 _
    cases ha2
    obtain ⟨x, v, hx, hv⟩ := hm.1.sq.at hbn hlt
    have hxl := hm.1.sq.2 b x hx
    refine o_ldR1 T1_33 H 0 rfl (b * 1) rfl (v := hdv x) (hd_at hx) ?_
    refine o_move ?_
    refine o_idxM U_33 TI_4 H 1 rfl hx rfl rfl (by omega) (by omega) ?_
    rintro ax hax
    refine o_ldM1 T1_4 H 1 rfl hx hax k rfl hv ?_
    refine o_not v rfl ?_
    refine o_move ?_
    cases v with
    | false =>
      refine o_off (d := 27) rfl rfl rfl rfl ?_
      refine o_off (d := 27) rfl rfl rfl rfl ?_
      refine o_off (d := 27) rfl rfl rfl rfl ?_
      refine o_pick true rfl ?_
      refine o_nil ?_
      repeat refine wC_seq ?_
      refine wC_if true rfl ?_
      refine wC_exit ?_
      exact ⟨(t, hs), ⟨rfl, rfl, rfl, rfl, rfl, rfl, trivial⟩, hm.next (fun _ _ hM => by have := (M.iff hx hv).1 hM; cases this), H⟩
    | true =>
      refine o_on (d := 27) rfl rfl (fun _ _ => ?_)
      refine o_move ?_
      refine o_on (d := 27) rfl rfl (fun _ _ => ?_)
      refine o_move ?_
      refine o_on (d := 27) rfl rfl (fun _ _ => ?_)
      by_cases hkb : k = b
      · refine o_eql true rfl rfl (by simp [hkb]) ?_
        refine o_pick false rfl ?_
        refine o_nil ?_
        repeat refine wC_seq ?_
        refine wC_if true rfl ?_
        refine wC_exit ?_
        exact ⟨(t, hs), ⟨rfl, rfl, rfl, rfl, rfl, rfl, trivial⟩, hm.next (fun _ h => absurd hkb h), H⟩
      refine o_eql false rfl rfl (by simp; omega) ?_
      refine o_pick false rfl ?_
      refine o_nil ?_
      repeat refine wC_seq ?_
      refine wC_if false rfl ?_
      refine wC_skip ?_
      repeat refine wC_seq ?_
      refine wC_region ?_
      refine o_move ?_
      refine o_nilck rfl ?_
      refine o_fld (fl := fd_42_1) (m := 0) U_42 rfl (T1_22.sz) rfl ?_
      refine o_ldS1 T1_22 H hC 1 rfl rfl ?_
      refine o_move ?_
      refine o_idxS U_22 TI_35 hRi rfl rfl (by omega) (by omega) ?_
      rintro ai rfl hCi
      refine o_ldS1 T1_35 H hCi (b * 1) rfl (by rw [Nat.mul_one]; exact hsb) ?_
      refine o_len U_35 rfl ?_
      refine o_move ?_
      refine o_nil ?_
      repeat refine wC_seq ?_
      refine wC_block ?_
      refine wC_loop (σ := Nat × Bool × List (Hd Bool)) (fun s => [(0, .pointer (some p)), (1, .slice (some ao) n co), (2, .int .i64 (b : Nat)), (7, .bool s.2.1), (8, .int .i64 (k : Nat)), (15, .int .i64 (n : Nat)), (16, .int .i64 (k : Nat)), (38, .slice Ab (insOf ways b).length cb), (39, .int .i64 (insOf ways b).length), (40, .int .i64 (s.1 : Nat))])
        (fun s w' => s.1 ≤ (insOf ways b).length ∧ Meeting ways n b hs0 s.2.2 s.2.1 k ∧ (s.2.1 = false → M s.2.2 b k → ∀ q ∈ (insOf ways b).take s.1, Rch ways 0 (-1) q.toNat → M s.2.2 q.toNat k) ∧ St w0 f0 [row (some ao) n co 33 1 (s.2.2.map hdv), star (s.2.2.map (hrow bv 4))] w') (fun s => (insOf ways b).length - s.1)
        (0, t, hs) ⟨rfl, rfl, rfl, rfl, rfl, rfl, rfl, rfl, rfl, rfl, trivial⟩ ⟨Nat.zero_le _, hm, fun _ _ q hq => by simp at hq, H⟩ ?_
      clear hm hx hv hxl hax x ax H
      rintro f ⟨i, t, hs⟩ w2 ⟨hi, hm, hin, H⟩
      simp only at hi hm hin H ⊢
      have hil : (insOf ways b).length ≤ 1001000 := by
        have := iPre_len h3 ways.length 0 b
        rw [iPre_end] at this
        refine Nat.le_trans this ?_
        rw [h1]; omega
      repeat refine wC_seq ?_
      refine wC_region ?_
      by_cases hlti : i < (insOf ways b).length
      case neg =>
        refine o_lss false rfl rfl (by simp; omega) ?_
        refine o_nil ?_
        repeat refine wC_seq ?_
        refine wC_if false rfl ?_
        refine wC_exit ?_
        refine ⟨(t, hs), ⟨rfl, rfl, rfl, rfl, rfl, rfl, trivial⟩, hm.next fun ht _ hM q hE hr => ?_, H⟩
        rw [List.take_of_length_le (by omega)] at hin
        have := hin ht hM (q : Int) ((mem_ins (by omega)).2 ⟨by omega, by rw [Int.toNat_natCast]; exact hE⟩) (by rw [Int.toNat_natCast]; exact hr)
        rw [Int.toNat_natCast] at this
        exact this
      refine o_lss true rfl rfl (by simp; omega) ?_
      refine o_nil ?_
      repeat refine wC_seq ?_
      refine wC_if true rfl ?_
      refine wC_skip ?_
      obtain ⟨pv, hpv⟩ : ∃ y, (insOf ways b)[i]? = some y := ⟨_, List.getElem?_eq_getElem hlti⟩
      obtain ⟨hp0, hpE⟩ := (mem_ins (by omega)).1 (List.mem_of_getElem? hpv)
      have hpn : pv.toNat < n := by obtain ⟨l, hl, _⟩ := hpE; have := (List.getElem?_eq_some_iff.1 hl).1; omega
      have step : ∀ {t' : Bool} {hs' : List (Hd Bool)}, (t' = false → M hs' b k → ∀ q ∈ (insOf ways b).take i, Rch ways 0 (-1) q.toNat → M hs' q.toNat k) → (t' = false → M hs' b k → Rch ways 0 (-1) pv.toNat → M hs' pv.toNat k) → (t' = false → M hs' b k → ∀ q ∈ (insOf ways b).take (i + 1), Rch ways 0 (-1) q.toNat → M hs' q.toNat k) := by
        intro t' hs' ha hb' ht hM q hq hr
        obtain ⟨hi', he⟩ := List.getElem?_eq_some_iff.1 hpv
        rw [List.take_succ_eq_append_getElem hi', he] at hq
        rcases List.mem_append.1 hq with hq | hq
        · exact ha ht hM q hq hr
        · simp at hq; subst hq; exact hb' ht hM hr
      repeat refine wC_seq ?_
      refine wC_block ?_
      repeat refine wC_seq ?_
      refine wC_region ?_
      refine o_idxS U_35 TI_3 hRb rfl rfl (by omega) (by omega) ?_
      rintro ab rfl hCb
      refine o_ldS1 T1_3 H hCb (i * 1) rfl (v := .int .i64 pv) (by rw [Nat.mul_one, List.getElem?_map, hpv]; rfl) ?_
      refine o_assign ?_
      refine o_nil ?_
      repeat refine wC_seq ?_
      refine wC_region ?_
      refine o_move ?_
      refine o_move ?_
      refine o_callF F_19 rfl (in_any pv w2 (hG0.loc H.ok0)) ?_; rintro v w ⟨⟨x0b, rfl, hx0b⟩, hs9⟩
      have H := H.idle hs9
      refine o_move ?_
      cases x0b with
      | false =>
        refine o_off (d := 47) rfl rfl rfl rfl ?_
        refine o_off (d := 47) rfl rfl rfl rfl ?_
        refine o_off (d := 47) rfl rfl rfl rfl ?_
        refine o_off (d := 47) rfl rfl rfl rfl ?_
        refine o_off (d := 47) rfl rfl rfl rfl ?_
        refine o_off (d := 47) rfl rfl rfl rfl ?_
        refine o_off (d := 47) rfl rfl rfl rfl ?_
        refine o_off (d := 47) rfl rfl rfl rfl ?_
        refine o_pick false rfl ?_
        refine o_move ?_
        refine o_off (d := 57) rfl rfl rfl rfl ?_
        refine o_off (d := 57) rfl rfl rfl rfl ?_
        refine o_off (d := 57) rfl rfl rfl rfl ?_
        refine o_off (d := 57) rfl rfl rfl rfl ?_
        refine o_off (d := 57) rfl rfl rfl rfl ?_
        refine o_off (d := 57) rfl rfl rfl rfl ?_
        refine o_off (d := 57) rfl rfl rfl rfl ?_
        refine o_pick false rfl ?_
        refine o_nil ?_
        repeat refine wC_seq ?_
        refine wC_if false rfl ?_
        refine wC_skip ?_
        repeat refine wC_seq ?_
        refine wC_region ?_
        refine o_add64 rfl rfl (by omega) ?_
        refine o_move ?_
        refine o_nil ?_
        exact ⟨(i + 1, t, hs), ⟨rfl, rfl, rfl, rfl, rfl, rfl, rfl, rfl, rfl, rfl, trivial⟩, ⟨hlti, hm, step hin (fun _ _ hr => absurd (hx0b.2 ⟨hp0, hr⟩) (by simp)), H⟩, by show (insOf ways b).length - (i + 1) < (insOf ways b).length - i; omega⟩
      | true =>
        obtain ⟨_, hpr⟩ := hx0b.1 rfl
        refine o_on (d := 47) rfl rfl (fun _ _ => ?_)
        refine o_move ?_
        refine o_on (d := 47) rfl rfl (fun _ _ => ?_)
        refine o_move ?_
        refine o_on (d := 47) rfl rfl (fun _ _ => ?_)
        refine o_idxR U_25 TI_33 H 0 rfl rfl rfl (by omega) (by omega) ?_
        rintro a2 ha2 _
        cases ha2
        obtain ⟨y, v2, hy, hv2⟩ := hm.1.sq.at hpn hlt
        have hyl := hm.1.sq.2 _ y hy
        refine o_on (d := 47) rfl rfl (fun _ _ => ?_)
        refine o_ldR1 T1_33 H 0 rfl (pv.toNat * 1) rfl (v := hdv y) (hd_at hy) ?_
        refine o_on (d := 47) rfl rfl (fun _ _ => ?_)
        refine o_move ?_
        refine o_on (d := 47) rfl rfl (fun _ _ => ?_)
        refine o_idxM U_33 TI_4 H 1 rfl hy rfl rfl (by omega) (by omega) ?_
        rintro ay hay
        refine o_on (d := 47) rfl rfl (fun _ _ => ?_)
        refine o_ldM1 T1_4 H 1 rfl hy hay k rfl hv2 ?_
        refine o_on (d := 47) rfl rfl (fun _ _ => ?_)
        refine o_not v2 rfl ?_
        refine o_pick true rfl ?_
        refine o_move ?_
        cases v2 with
        | true =>
          refine o_off (d := 57) rfl rfl rfl rfl ?_
          refine o_off (d := 57) rfl rfl rfl rfl ?_
          refine o_off (d := 57) rfl rfl rfl rfl ?_
          refine o_off (d := 57) rfl rfl rfl rfl ?_
          refine o_off (d := 57) rfl rfl rfl rfl ?_
          refine o_off (d := 57) rfl rfl rfl rfl ?_
          refine o_off (d := 57) rfl rfl rfl rfl ?_
          refine o_pick false rfl ?_
          refine o_nil ?_
          repeat refine wC_seq ?_
          refine wC_if false rfl ?_
          refine wC_skip ?_
          repeat refine wC_seq ?_
          refine wC_region ?_
          refine o_add64 rfl rfl (by omega) ?_
          refine o_move ?_
          refine o_nil ?_
          exact ⟨(i + 1, t, hs), ⟨rfl, rfl, rfl, rfl, rfl, rfl, rfl, rfl, rfl, rfl, trivial⟩, ⟨hlti, hm, step hin (fun _ _ _ => (M.iff hy hv2).2 rfl), H⟩, by show (insOf ways b).length - (i + 1) < (insOf ways b).length - i; omega⟩
        | false =>
          refine o_on (d := 57) rfl rfl (fun _ _ => ?_)
          refine o_move ?_
          refine o_on (d := 57) rfl rfl (fun _ _ => ?_)
          refine o_move ?_
          refine o_on (d := 57) rfl rfl (fun _ _ => ?_)
          refine o_idxR U_25 TI_33 H 0 rfl rfl rfl (by omega) (by omega) ?_
          rintro a2 ha2 _
          cases ha2
          obtain ⟨x, v3, hx, hv3⟩ := hm.1.sq.at hbn hlt
          have hxl := hm.1.sq.2 _ x hx
          refine o_on (d := 57) rfl rfl (fun _ _ => ?_)
          refine o_ldR1 T1_33 H 0 rfl (b * 1) rfl (v := hdv x) (hd_at hx) ?_
          refine o_on (d := 57) rfl rfl (fun _ _ => ?_)
          refine o_move ?_
          refine o_on (d := 57) rfl rfl (fun _ _ => ?_)
          refine o_idxM U_33 TI_4 H 1 rfl hx rfl rfl (by omega) (by omega) ?_
          rintro ax hax
          refine o_on (d := 57) rfl rfl (fun _ _ => ?_)
          refine o_ldM1 T1_4 H 1 rfl hx hax k rfl hv3 ?_
          refine o_pick true rfl ?_
          cases v3 with
          | false =>
            refine o_nil ?_
            repeat refine wC_seq ?_
            refine wC_if false rfl ?_
            refine wC_skip ?_
            repeat refine wC_seq ?_
            refine wC_region ?_
            refine o_add64 rfl rfl (by omega) ?_
            refine o_move ?_
            refine o_nil ?_
            exact ⟨(i + 1, t, hs), ⟨rfl, rfl, rfl, rfl, rfl, rfl, rfl, rfl, rfl, rfl, trivial⟩, ⟨hlti, hm, step hin (fun _ hM _ => by have := (M.iff hx hv3).1 hM; cases this), H⟩, by show (insOf ways b).length - (i + 1) < (insOf ways b).length - i; omega⟩
          | true =>
            refine o_nil ?_
            repeat refine wC_seq ?_
            refine wC_if true rfl ?_
            repeat refine wC_seq ?_
            refine wC_region ?_
            refine o_move ?_
            refine o_move ?_
            refine o_idxR U_25 TI_33 H 0 rfl rfl rfl (by omega) (by omega) ?_
            rintro a2 ha2 _
            cases ha2
            refine o_ldR1 T1_33 H 0 rfl (b * 1) rfl (v := hdv x) (hd_at hx) ?_
            refine o_move ?_
            refine o_idxM U_33 TI_4 H 1 rfl hx rfl rfl (by omega) (by omega) ?_
            rintro ax' hax'
            rw [hax] at hax'; cases hax'
            refine o_stM (v := false) rfl rfl T1_4.sz H 1 rfl hx hax k rfl rfl (by omega) ?_; intro w H
            refine o_nil ?_
            repeat refine wC_seq ?_
            refine wC_region ?_
            refine o_assign ?_
            refine o_nil ?_
            repeat refine wC_seq ?_
            refine wC_region ?_
            refine o_add64 rfl rfl (by omega) ?_
            refine o_move ?_
            refine o_nil ?_
            have hcn := cnt_put hx hv3
            have hD := hm.1.strike h1 hx hlt hkb hpE hpr (fun hM => by have := (M.iff hy hv2).1 hM; cases this)
            have hlt' : cnt (hs.set b (x.1, x.2.set k false)) < cnt hs0 := by
              cases ht : t with
              | false => rw [(hm.2.1 ht).1] at hcn ⊢; omega
              | true => have := hm.2.2 ht; omega
            refine ⟨(i + 1, true, hs.set b (x.1, x.2.set k false)), ⟨rfl, rfl, rfl, rfl, rfl, rfl, rfl, rfl, rfl, rfl, trivial⟩, ⟨hlti, ⟨hD, fun h => (by cases h), fun _ => hlt'⟩, fun h => (by cases h), ?_⟩, by show (insOf ways b).length - (i + 1) < (insOf ways b).length - i; omega⟩
            show St w0 f0 [row (some ao) n co 33 1 ((hs.set b (x.1, x.2.set k false)).map hdv), star ((hs.set b (x.1, x.2.set k false)).map (hrow bv 4))] w
            rw [hdv_set hx]
            exact H
  · refine o_lss false rfl rfl (by simp; omega) ?_
    refine o_nil ?_
    repeat refine wC_seq ?_
    refine wC_if false rfl ?_
    refine wC_exit ?_
    repeat refine wC_seq ?_
    refine wC_region ?_
    refine o_move ?_
    refine o_assign ?_
    refine o_nil ?_
    refine wC_ret ?_
    obtain rfl : k = n := by omega
    refine ⟨t, hs, rfl, ⟨hm.1, fun ht => ⟨(hm.2.1 ht).1, fun k' hkb hM q hE hr => ?_⟩, hm.2.2⟩, H⟩
    refine (hm.2.1 ht).2 k' ?_ hkb hM q hE hr
    obtain ⟨y, hy1, hy2⟩ := hM
    have := (List.getElem?_eq_some_iff.1 hy2).1
    rw [hm.1.sq.2 b y hy1] at this
    exact this
end Go.Proofs.Ytgcmcgbkdeealaa
