/- The walk: loop. -/
import Derived.Test.YtgcmcgbkdeealaaF7
import Derived.Test.YtgcmcgbkdeealaaG5
namespace Go.Proofs.Ytgcmcgbkdeealaa
set_option linter.unusedVariables false
set_option linter.unusedSimpArgs false
open Go Go.RowKit

def insN (ways : List (List Int)) (k : Nat) : List Nat := (insOf ways k).map Int.toNat
theorem insN_vals {ways : List (List Int)} {k : Nat} (hk : k < ways.length) : (insOf ways k).map iv = (insN ways k).map nv := by
  unfold insN
  rw [List.map_map]
  refine List.map_congr_left fun x hx => ?_
  have := ((mem_ins hk).1 hx).1
  show Value.int .i64 x = Value.int .i64 ((x.toNat : Nat) : Int)
  rw [Int.toNat_of_nonneg this]
theorem mem_insN {ways : List (List Int)} {k : Nat} (hk : k < ways.length) (p : Nat) : p ∈ insN ways k ↔ E ways p k := by
  unfold insN
  rw [List.mem_map]
  constructor
  · rintro ⟨x, hx, rfl⟩; exact ((mem_ins hk).1 hx).2
  · intro h; exact ⟨(p : Int), (mem_ins hk).2 ⟨by omega, by rw [Int.toNat_natCast]; exact h⟩, Int.toNat_natCast p⟩

theorem falls {C c n a b : Nat} (h : C + 1 = c) (hm : c * 1001001 + (a + 1) ≤ n * 1001001 + 1) (hb : b ≤ 1001000) : C * 1001001 + (a + b) ≤ n * 1001001 + 1 ∧ C * 1001001 + (a + b) < c * 1001001 + (a + 1) := by
  subst h
  rw [Nat.add_mul] at hm ⊢
  omega

theorem loop_any {p : Addr} {n : Nat} {ways : List (List Int)} (top b : Nat) (htop : top < n) (hb : b < n) (w0 : World) (hG : RdG (okOf w0 fun _ => False) w0 p n ways) :
    CallsV Try.prog 22 #[.pointer (some p), .int .i64 (top : Nat), .int .i64 (b : Nat)] w0 fun v w' => ∃ (bo : Nat) (r : List Bool), v = .slice (some ⟨bo, 0, none⟩) n n ∧ r.length = n ∧ (∀ k : Nat, r[k]? = some true ↔ InL ways top b k) ∧ St w0 (fun _ => False) [row (some ⟨bo, 0, none⟩) n n 4 1 (r.map bv)] w' := by
  have hG0 := hG
  obtain ⟨h1, hn1, h3, Bo, cbo, Bi, cbi, Br, cbr, rr, hC, h5, h6, h7, h8, h9⟩ := hG
  obtain ⟨_, his, hRi, hRR⟩ := h6
  have hil : ∀ k, (insOf ways k).length ≤ 1001000 := fun k => by
    have := iPre_len h3 ways.length 0 k
    rw [iPre_end] at this
    refine Nat.le_trans this ?_
    rw [h1]; omega
  refine calls_of (args := [.pointer (some p), .int .i64 (top : Nat), .int .i64 (b : Nat)]) Try.func22 rfl rfl rfl rfl ?_
  have H := St.begin w0
  repeat refine wC_seq ?_
  refine wC_region ?_
  refine o_assign ?_
  refine o_nil ?_
  repeat refine wC_seq ?_
  refine wC_region ?_
  refine o_move ?_
  refine o_callF F_17 rfl (len_any w0 hG0) ?_; rintro v w ⟨rfl, hs⟩
  have H := H.idle hs
  refine o_make U_33 TI_4 (m := n) rfl rfl (by omega) H ?_; intro bo w H
  have em : (madeCells (Value.bool false).cells (n * 1)).toList = (List.replicate n false).map bv := made_b n
  rw [em] at H
  refine o_assign ?_
  refine o_nil ?_
  repeat refine wC_seq ?_
  refine wC_region ?_
  refine o_move ?_
  refine o_move ?_
  refine o_idxR U_33 TI_4 H 0 rfl rfl rfl (by omega) (by omega) ?_
  rintro a2 ha2 _
  cases ha2
  refine o_stR (v := .bool true) TI_4.size H 0 rfl (top * 1) rfl rfl (by simp [Value.cells]; omega) (by simp [Value.cells, Value.oneCell']) ?_; intro w H
  refine o_nil ?_
  have e0 : lay ((List.replicate n false).map bv) (top * 1) (Value.bool true).cells.toList = ((List.replicate n false).set top true).map bv := bvs_set _ _ true (by simp; omega)
  rw [e0] at H
  have hr0 : ∀ k : Nat, ((List.replicate n false).set top true)[k]? = some true ↔ k = top := fun k => by
    by_cases e : k = top
    · subst e; simp [htop]
    · rw [List.getElem?_set_ne (Ne.symm e), List.getElem?_replicate]; split <;> simp [e]
  have hrl0 : ((List.replicate n false).set top true).length = ways.length := by simp [h1]
  have hcnt0 : ((List.replicate n false).set top true).count false ≤ n := by
    have := List.count_le_length (a := false) (l := (List.replicate n false).set top true)
    simpa using this
  generalize (List.replicate n false).set top true = r0 at H hr0 hrl0 hcnt0
  repeat refine wC_seq ?_
  refine wC_region ?_
  refine o_move ?_
  refine o_lit (pv := [(0, .int .i64 (b : Nat))]) (cells := [b].map nv) U_35 TI_3 (by decide) rfl (by simp [Value.cells]) rfl H ?_; intro b17 w H
  refine o_assign ?_
  refine o_nil ?_
  repeat refine wC_seq ?_
  refine wC_block ?_
  refine wC_loop (σ := List Bool × List Nat × Option Addr × Nat) (fun s => [(0, .pointer (some p)), (7, .slice (some ⟨bo, 0, none⟩) n n), (8, .slice s.2.2.1 s.2.1.length s.2.2.2)])
    (fun s w' => Lp ways top b s.1 s.2.1 ∧ s.1.count false * 1001001 + s.2.1.length ≤ n * 1001001 + 1 ∧ St w0 (fun _ => False) [row (some ⟨bo, 0, none⟩) n n 4 1 (s.1.map bv), row s.2.2.1 s.2.1.length s.2.2.2 3 1 (s.2.1.map nv)] w') (fun s => s.1.count false * 1001001 + s.2.1.length)
    (r0, [b], some ⟨b17, 0, none⟩, 1) ⟨rfl, rfl, rfl, trivial⟩ ⟨Lp.begin hrl0 (by omega) (by omega) hr0, by show r0.count false * 1001001 + 1 ≤ _; omega, H⟩ ?_
  rintro f ⟨r, td, T, cT⟩ w1 ⟨hL, hmu, H⟩
  simp only at hL hmu H ⊢
  repeat refine wC_seq ?_
  refine wC_region ?_
  refine o_move ?_
  refine o_len U_35 rfl ?_
  rcases List.eq_nil_or_concat td with rfl | ⟨td, t, htd⟩
  · refine o_gtr false rfl rfl (by simp) ?_
    refine o_nil ?_
    repeat refine wC_seq ?_
    refine wC_if false rfl ?_
    refine wC_exit ?_
    repeat refine wC_seq ?_
    refine wC_region ?_
    refine o_move ?_
    refine o_assign ?_
    refine o_nil ?_
    refine wC_ret ?_
    exact ⟨bo, r, rfl, hL.len.trans h1, fun k => hL.end_, H.drop 1⟩
  · rw [List.concat_eq_append] at htd
    subst htd
    have htl : (td ++ [t]).length = td.length + 1 := by simp
    have htn := (hL.todoIn t (by simp)).1
    obtain ⟨v0, hv0⟩ : ∃ v, r[t]? = some v := ⟨_, List.getElem?_eq_getElem (by rw [hL.len]; exact htn)⟩
    refine o_gtr true rfl rfl (by simp) ?_
    refine o_nil ?_
    repeat refine wC_seq ?_
    refine wC_if true rfl ?_
    refine wC_skip ?_
    repeat refine wC_seq ?_
    refine wC_block ?_
    repeat refine wC_seq ?_
    refine wC_region ?_
    refine o_move ?_
    refine o_move ?_
    refine o_len U_35 rfl ?_
    refine o_sub64 rfl rfl (by omega) ?_
    refine o_idxR U_35 TI_3 H 1 rfl rfl rfl (by omega) (by omega) ?_
    rintro aT rfl _
    refine o_ldR1 T1_3 H 1 rfl ((((td ++ [t]).length : Nat) - 1 : Int).toNat * 1) rfl (v := nv t) (by
      have e : (((td ++ [t]).length : Nat) - 1 : Int).toNat = td.length := by omega
      rw [Nat.mul_one, e, List.getElem?_map, List.getElem?_append_right (Nat.le_refl _), Nat.sub_self]; rfl) ?_
    refine o_assign ?_
    refine o_nil ?_
    repeat refine wC_seq ?_
    refine wC_region ?_
    refine o_move ?_
    refine o_move ?_
    refine o_len U_35 rfl ?_
    refine o_sub64 (b := 1) rfl rfl (by omega) ?_
    obtain ⟨hcap, _⟩ : (td ++ [t]).length ≤ cT ∧ True := by
      obtain ⟨f1, hA, _⟩ := H.focus 1 rfl
      exact ⟨(row.len hA).2.1, trivial⟩
    have eti : (((td ++ [t]).length : Nat) : Int) - 1 = (td.length : Nat) := by omega
    rw [eti]
    refine o_cutH U_35 TI_3 rfl rfl (by omega) (by omega) ?_
    refine o_assign ?_
    refine o_nil ?_
    have H := H.turn 1 rfl (A' := row (some aT) td.length cT 3 1 (td.map nv)) fun g hg => by
      have h2 := row.cutH hg td.length (by omega)
      have e : ((td ++ [t]).map nv).take (td.length * 1) = td.map nv := by rw [Nat.mul_one, List.map_append, List.take_left' (by simp)]
      rw [e] at h2; exact h2
    repeat refine wC_seq ?_
    refine wC_region ?_
    refine o_move ?_
    refine o_move ?_
    refine o_idxR U_33 TI_4 H 0 rfl rfl rfl (by omega) (by omega) ?_
    rintro a2 ha2 _
    cases ha2
    refine o_ldR1 T1_4 H 0 rfl (t * 1) rfl (v := .bool v0) (by rw [Nat.mul_one, List.getElem?_map, hv0]; rfl) ?_
    refine o_move ?_
    cases v0 with
    | true =>
      refine o_off (d := 36) rfl rfl rfl rfl ?_
      refine o_off (d := 36) rfl rfl rfl rfl ?_
      refine o_off (d := 36) rfl rfl rfl rfl ?_
      refine o_off (d := 36) rfl rfl rfl rfl ?_
      refine o_pick true rfl ?_
      refine o_nil ?_
      repeat refine wC_seq ?_
      refine wC_if true rfl ?_
      refine wC_exit ?_
      refine ⟨(r, td, some aT, cT), ⟨rfl, rfl, rfl, trivial⟩, ⟨hL.skip (.inl hv0), by show r.count false * 1001001 + td.length ≤ n * 1001001 + 1; omega, H⟩, ?_⟩
      show r.count false * 1001001 + td.length < r.count false * 1001001 + (td ++ [t]).length
      omega
    | false =>
      refine o_on (d := 36) rfl rfl (fun _ _ => ?_)
      refine o_move ?_
      refine o_on (d := 36) rfl rfl (fun _ _ => ?_)
      refine o_move ?_
      refine o_on (d := 36) rfl rfl (fun _ _ => ?_)
      refine o_callF F_19 rfl (in_any (t : Int) _ (hG0.loc H.ok0)) ?_; rintro v w ⟨⟨y, rfl, hy⟩, hs9⟩
      have H := H.idle hs9
      have hy : y = true ↔ Rch ways 0 (-1) t := by rw [hy, Int.toNat_natCast]; simp
      refine o_on (d := 36) rfl rfl (fun _ _ => ?_)
      refine o_not y rfl ?_
      refine o_pick false rfl ?_
      cases y with
      | false =>
        refine o_nil ?_
        repeat refine wC_seq ?_
        refine wC_if true rfl ?_
        refine wC_exit ?_
        refine ⟨(r, td, some aT, cT), ⟨rfl, rfl, rfl, trivial⟩, ⟨hL.skip (.inr fun h => by have := hy.2 h; cases this), by show r.count false * 1001001 + td.length ≤ n * 1001001 + 1; omega, H⟩, ?_⟩
        show r.count false * 1001001 + td.length < r.count false * 1001001 + (td ++ [t]).length
        omega
      | true =>
        refine o_nil ?_
        repeat refine wC_seq ?_
        refine wC_if false rfl ?_
        refine wC_skip ?_
        repeat refine wC_seq ?_
        refine wC_region ?_
        refine o_move ?_
        refine o_move ?_
        refine o_idxR U_33 TI_4 H 0 rfl rfl rfl (by omega) (by omega) ?_
        rintro a2 ha2 _
        cases ha2
        refine o_stR (v := .bool true) TI_4.size H 0 rfl (t * 1) rfl rfl (by simp [Value.cells, hL.len]; omega) (by simp [Value.cells, Value.oneCell']) ?_; intro w H
        refine o_nil ?_
        have e0 : lay (r.map bv) (t * 1) (Value.bool true).cells.toList = (r.set t true).map bv := bvs_set _ _ true (by rw [hL.len]; omega)
        rw [e0] at H
        obtain ⟨Ab, cb, hsb, hRb⟩ := hRR t _ (insL_at (by omega))
        rw [insN_vals htn] at hRb
        have hnl : (insN ways t).length = (insOf ways t).length := by simp [insN]
        have hil2 := hil t
        rw [← hnl] at hRb
        repeat refine wC_seq ?_
        refine wC_region ?_
        refine o_move ?_
        refine o_move ?_
        refine o_nilck rfl ?_
        refine o_fld (fl := fd_42_1) (m := 0) U_42 rfl (T1_22.sz) rfl ?_
        refine o_ldS1 T1_22 H hC 1 rfl rfl ?_
        refine o_move ?_
        refine o_idxS U_22 TI_35 hRi rfl rfl (by omega) (by omega) ?_
        rintro ai rfl hCi
        refine o_ldS1 T1_35 H hCi (t * 1) rfl (by rw [Nat.mul_one]; exact hsb) ?_
        refine o_appS U_35 TI_3 H 1 rfl hRb rfl (congrArg (fun l => Value.slice Ab l cb) hnl.symm) (nvs_one _) (by omega) ?_; intro X cX w H
        refine o_assign ?_
        refine o_nil ?_
        have hcn := count_set hv0
        have el : (td ++ insN ways t).length = td.length + (insN ways t).length := by simp
        rw [← List.map_append, ← el] at H
        refine ⟨(r.set t true, td ++ insN ways t, X, cX), ⟨rfl, rfl, congrArg (fun l => Value.slice X l cX) el.symm, trivial⟩, ?_, ?_⟩
        · refine ⟨hL.take hv0 (hy.1 rfl) (mem_insN htn), ?_, H⟩
          have := (falls hcn (by rw [← htl]; exact hmu) (Nat.le_trans (Nat.le_of_eq hnl) hil2)).1
          rw [← el] at this
          exact this
        · have := (falls hcn (by rw [← htl]; exact hmu) (Nat.le_trans (Nat.le_of_eq hnl) hil2)).2
          rw [← el, ← htl] at this
          exact this
end Go.Proofs.Ytgcmcgbkdeealaa
