/- The walks: Len, in, Ins. -/
import Derived.Test.YtgcmcgbkdeealaaF3
namespace Go.Proofs.Ytgcmcgbkdeealaa
set_option linter.unusedVariables false
set_option linter.unusedSimpArgs false
open Go Go.RowKit

section
variable {P : Program} {n : Nat} {md : Bool} {ops : Array Oper} {rest : List Oper} {f : Fr} {w w0 : World} {Q : Fr → World → Prop} {f0 : FP} {L : List HP}
variable {d : Tmp} {x y z : Operand} {ty t : TypeId} {pos : String} {after : Array Edge}
theorem run_pnil {e : TypeId} {p : Option Addr} (m : Nat) (ht : P.underlying t = some (.pointer e)) : (Op.equalIn (m + 1) t (.pointer p) (.pointer none)).run P w = .ok p.isNone w := by
  cases p <;> simp [Op.equalIn, run_underlying ht]
/-- a pointer against nil -/
theorem o_pnil {e : TypeId} {p : Option Addr} {yt : TypeId} (ht : P.underlying t = some (.pointer e)) (hx : ev f x = .pointer p) (hy : ev f y = .pointer none) (h : wO P ops n md rest Q (up f d (.bool p.isNone)) w) (hd : Nat.blt d n = true := by rfl) :
    wO P ops n md (⟨some d, .binOp .eql t x y yt, ty, pos, after, none⟩ :: rest) Q f w := by
  refine o_pure (v := .bool p.isNone) rfl hd ?_ h
  show (Sem.run P (do pure (Next.value (← (do eqGuard .eql t x y (ev f x) (ev f y); binOp .eql t (ev f x) (ev f y))))) w) = _
  rw [hx, hy]
  have he : (Op.equal t (.pointer p) (.pointer none)).run P w = .ok p.isNone w := run_pnil 9999 ht
  simp [eqGuard, binOp, he, Result.andThen]
end

theorem Cells.get {ok : FP} {w : World} {a : Addr} {cs : List Value} (h : Cells ok w a cs) {w' : World} {ok' : FP} (hk : ∀ b, ok b → ok' b ∧ w'.heap[b]? = w.heap[b]?) : Cells ok' w' a cs := h.loc hk

/-- A graph that is only read. -/
def RdG (ok : FP) (w : World) (p : Addr) (n : Nat) (ways : List (List Int)) : Prop :=
  ways.length = n ∧ n ≤ 1000 ∧ (∀ l ∈ ways, l.length ≤ 1000) ∧ ∃ (Ao : Option Addr) (co : Nat) (Ai : Option Addr) (ci : Nat) (Ar : Option Addr) (cr : Nat) (r : List Bool), Cells ok w p [.slice Ao n co, .slice Ai n ci, .slice Ar n cr] ∧ Rd2 iv ok w Ao n co ((List.range n).map (outsOf ways)) ∧ Rd2 iv ok w Ai n ci ((List.range n).map (insOf ways)) ∧
    r.length = n ∧ (∀ k : Nat, r[k]? = some true ↔ Rch ways 0 (-1) k) ∧ RdS ok w Ar n cr 1 (r.map bv)
theorem RdG.loc {ok ok' : FP} {w w' : World} {p : Addr} {n : Nat} {ways : List (List Int)} (h : RdG ok w p n ways) (hk : ∀ b, ok b → ok' b ∧ w'.heap[b]? = w.heap[b]?) : RdG ok' w' p n ways := by
  obtain ⟨h1, h2, h3, Ao, co, Ai, ci, Ar, cr, r, h4, h5, h6, h7, h8, h9⟩ := h
  exact ⟨h1, h2, h3, Ao, co, Ai, ci, Ar, cr, r, h4.loc hk, h5.loc hk, h6.loc hk, h7, h8, h9.loc hk⟩
theorem St.rdG {w0 w : World} {f0 : FP} {L : List HP} {g n bo bi : Nat} {Ar : Option Addr} {cr : Nat} {ho hi : List (Hd Int)} {r : List Bool} {ways : List (List Int)} (H : St w0 f0 (grL g n bo bi Ar cr ho hi r ++ L) w)
    (hn : ways.length = n) (hn1 : n ≤ 1000) (hn2 : ∀ l ∈ ways, l.length ≤ 1000) (hho : Heads n ho (outsOf ways)) (hhi : Heads n hi (insOf ways)) (hrl : r.length = n) (hrr : ∀ k : Nat, r[k]? = some true ↔ Rch ways 0 (-1) k) : RdG (okOf w fun _ => False) w ⟨g, 0, none⟩ n ways := by
  refine ⟨hn, hn1, hn2, some ⟨bo, 0, none⟩, n, some ⟨bi, 0, none⟩, n, Ar, cr, r, H.cells 3 rfl, ?_, ?_, hrl, hrr, H.rdR 2 rfl⟩
  · rw [← hho.map]; exact H.rd2 0 4 rfl rfl hho.1
  · rw [← hhi.map]; exact H.rd2 1 5 rfl rfl hhi.1

theorem len_any {p : Addr} {n : Nat} {ways : List (List Int)} (w0 : World) (hG : RdG (okOf w0 fun _ => False) w0 p n ways) :
    CallsV Try.prog 17 #[.pointer (some p)] w0 fun v w' => v = .int .i64 (n : Nat) ∧ Step w0 (fun _ => False) w' := by
  obtain ⟨h1, h2, h3, Ao, co, Ai, ci, Ar, cr, r, hC, h5, h6, h7, h8, h9⟩ := hG
  refine calls_of (args := [.pointer (some p)]) Try.func17 rfl rfl rfl rfl ?_
  have H := St.begin w0
  repeat refine wC_seq ?_
  refine wC_region ?_
  refine o_assign ?_
  refine o_nil ?_
  repeat refine wC_seq ?_
  refine wC_region ?_
  refine o_move ?_
  refine o_pnil U_26 rfl rfl ?_
  refine o_nil ?_
  repeat refine wC_seq ?_
  refine wC_if false rfl ?_
  refine wC_skip ?_
  repeat refine wC_seq ?_
  refine wC_region ?_
  refine o_move ?_
  refine o_nilck rfl ?_
  refine o_fld (fl := fd_42_0) (m := 0) U_42 rfl (T1_22.sz) rfl ?_
  refine o_ldS1 T1_22 H hC 0 rfl rfl ?_
  refine o_len U_22 rfl ?_
  refine o_assign ?_
  refine o_nil ?_
  refine wC_ret ?_
  exact ⟨rfl, H.step⟩

theorem in_any {p : Addr} {n : Nat} {ways : List (List Int)} (b : Int) (w0 : World) (hG : RdG (okOf w0 fun _ => False) w0 p n ways) :
    CallsV Try.prog 19 #[.pointer (some p), .int .i64 b] w0 fun v w' => (∃ x : Bool, v = .bool x ∧ (x = true ↔ (0 ≤ b ∧ Rch ways 0 (-1) b.toNat))) ∧ Step w0 (fun _ => False) w' := by
  have hG0 := hG
  obtain ⟨h1, h2, h3, Ao, co, Ai, ci, Ar, cr, r, hC, h5, h6, h7, h8, h9⟩ := hG
  refine calls_of (args := [.pointer (some p), .int .i64 b]) Try.func19 rfl rfl rfl rfl ?_
  have H := St.begin w0
  repeat refine wC_seq ?_
  refine wC_region ?_
  refine o_assign ?_
  refine o_nil ?_
  repeat refine wC_seq ?_
  refine wC_region ?_
  refine o_move ?_
  by_cases hb0 : 0 ≤ b
  case neg =>
    refine o_geq false rfl rfl (by simp; omega) ?_
    refine o_move ?_
    refine o_off (d := 7) rfl rfl rfl rfl ?_
    refine o_off (d := 7) rfl rfl rfl rfl ?_
    refine o_off (d := 7) rfl rfl rfl rfl ?_
    refine o_off (d := 7) rfl rfl rfl rfl ?_
    refine o_pick false rfl ?_
    refine o_move ?_
    refine o_off (d := 13) rfl rfl rfl rfl ?_
    refine o_off (d := 13) rfl rfl rfl rfl ?_
    refine o_off (d := 13) rfl rfl rfl rfl ?_
    refine o_off (d := 13) rfl rfl rfl rfl ?_
    refine o_off (d := 13) rfl rfl rfl rfl ?_
    refine o_off (d := 13) rfl rfl rfl rfl ?_
    refine o_off (d := 13) rfl rfl rfl rfl ?_
    refine o_pick false rfl ?_
    refine o_assign ?_
    refine o_nil ?_
    refine wC_ret ?_
    exact ⟨⟨false, rfl, by simp; intro h; omega⟩, H.step⟩
  refine o_geq true rfl rfl (by simp; omega) ?_
  refine o_move ?_
  refine o_on (d := 7) rfl rfl (fun _ _ => ?_)
  refine o_move ?_
  refine o_on (d := 7) rfl rfl (fun _ _ => ?_)
  refine o_move ?_
  refine o_on (d := 7) rfl rfl (fun _ _ => ?_)
  refine o_callF F_17 rfl (len_any w0 hG0) ?_; rintro v w ⟨rfl, hs⟩
  have H := H.idle hs
  refine o_on (d := 7) rfl rfl (fun _ _ => ?_)
  by_cases hbn : b < n
  case neg =>
    refine o_lss false rfl rfl (by simp; omega) ?_
    refine o_pick true rfl ?_
    refine o_move ?_
    refine o_off (d := 13) rfl rfl rfl rfl ?_
    refine o_off (d := 13) rfl rfl rfl rfl ?_
    refine o_off (d := 13) rfl rfl rfl rfl ?_
    refine o_off (d := 13) rfl rfl rfl rfl ?_
    refine o_off (d := 13) rfl rfl rfl rfl ?_
    refine o_off (d := 13) rfl rfl rfl rfl ?_
    refine o_off (d := 13) rfl rfl rfl rfl ?_
    refine o_pick false rfl ?_
    refine o_assign ?_
    refine o_nil ?_
    refine wC_ret ?_
    exact ⟨⟨false, rfl, by simp; intro _ h; have := h.lt; omega⟩, H.step⟩
  refine o_lss true rfl rfl (by simp; omega) ?_
  refine o_pick true rfl ?_
  refine o_move ?_
  refine o_on (d := 13) rfl rfl (fun _ _ => ?_)
  refine o_move ?_
  refine o_on (d := 13) rfl rfl (fun _ _ => ?_)
  refine o_nilck rfl ?_
  refine o_on (d := 13) rfl rfl (fun _ _ => ?_)
  refine o_fld (fl := fd_42_2) (m := 0) U_42 rfl (T1_33.sz) rfl ?_
  refine o_on (d := 13) rfl rfl (fun _ _ => ?_)
  refine o_ldS1 T1_33 H hC 2 rfl rfl ?_
  refine o_on (d := 13) rfl rfl (fun _ _ => ?_)
  refine o_move ?_
  refine o_on (d := 13) rfl rfl (fun _ _ => ?_)
  refine o_idxS U_33 TI_4 h9 rfl rfl (by omega) (by omega) ?_
  rintro a rfl hCr
  refine o_on (d := 13) rfl rfl (fun _ _ => ?_)
  obtain ⟨x, hx⟩ : ∃ x, r[b.toNat]? = some x := ⟨_, List.getElem?_eq_getElem (by omega)⟩
  refine o_ldS1 T1_4 H hCr (b.toNat * 1) rfl (v := .bool x) (by rw [Nat.mul_one, List.getElem?_map, hx]; rfl) ?_
  refine o_pick true rfl ?_
  refine o_assign ?_
  refine o_nil ?_
  refine wC_ret ?_
  refine ⟨⟨x, rfl, ?_⟩, H.step⟩
  rw [← h8, hx]
  simp [hb0]

theorem insL_at {n : Nat} {g : Nat → List Int} {k : Nat} (hk : k < n) : ((List.range n).map g)[k]? = some (g k) := by
  rw [List.getElem?_map, List.getElem?_range hk]; rfl

theorem ins_any {p : Addr} {n : Nat} {ways : List (List Int)} (b : Nat) (hb : b < n) (w0 : World) (hG : RdG (okOf w0 fun _ => False) w0 p n ways) :
    CallsV Try.prog 21 #[.pointer (some p), .int .i64 (b : Nat)] w0 fun v w' => ∃ A c, v = .slice A (insOf ways b).length c ∧ St w0 (fun _ => False) [row A (insOf ways b).length c 3 1 ((insOf ways b).map iv)] w' := by
  have hG0 := hG
  obtain ⟨h1, h2, h3, Ao, co, Ai, ci, Ar, cr, r, hC, h5, h6, h7, h8, h9⟩ := hG
  obtain ⟨_, hs, hR, hRR⟩ := h6
  obtain ⟨Ab, cb, hsb, hRb⟩ := hRR b _ (insL_at hb)
  have hil : (insOf ways b).length ≤ 1001000 := by
    have := iPre_len h3 ways.length 0 b
    rw [iPre_end] at this
    refine Nat.le_trans this ?_
    rw [h1]; omega
  refine calls_of (args := [.pointer (some p), .int .i64 (b : Nat)]) Try.func21 rfl rfl rfl rfl ?_
  have H := St.begin w0
  repeat refine wC_seq ?_
  refine wC_region ?_
  refine o_assign ?_
  refine o_nil ?_
  repeat refine wC_seq ?_
  refine wC_region ?_
  refine o_move ?_
  refine o_lss false rfl rfl (by simp) ?_
  refine o_move ?_
  refine o_on (d := 7) rfl rfl (fun _ _ => ?_)
  refine o_move ?_
  refine o_on (d := 7) rfl rfl (fun _ _ => ?_)
  refine o_move ?_
  refine o_on (d := 7) rfl rfl (fun _ _ => ?_)
  refine o_callF F_17 rfl (len_any w0 hG0) ?_; rintro v w ⟨rfl, hs⟩
  have H := H.idle hs
  refine o_on (d := 7) rfl rfl (fun _ _ => ?_)
  refine o_geq false rfl rfl (by simp; omega) ?_
  refine o_pick false rfl ?_
  refine o_nil ?_
  repeat refine wC_seq ?_
  refine wC_if false rfl ?_
  refine wC_skip ?_
  repeat refine wC_seq ?_
  refine wC_region ?_
  refine o_move ?_
  refine o_nilck rfl ?_
  refine o_fld (fl := fd_42_1) (m := 0) U_42 rfl (T1_22.sz) rfl ?_
  refine o_ldS1 T1_22 H hC 1 rfl rfl ?_
  refine o_move ?_
  refine o_idxS U_22 TI_35 hR rfl rfl (by omega) (by omega) ?_
  rintro a rfl hCi
  refine o_ldS1 T1_35 H hCi (b * 1) rfl (by rw [Nat.mul_one]; exact hsb) ?_
  have H := H.addNil 3 1
  refine o_appS U_35 TI_3 H 0 rfl hRb rfl rfl (ivs_one _) (by omega) ?_; intro A' c' w H
  refine o_assign ?_
  refine o_nil ?_
  refine wC_ret ?_
  have hz : 0 + (insOf ways b).length = (insOf ways b).length := Nat.zero_add _
  simp only [hz] at H ⊢
  exact ⟨A', c', rfl, H⟩
end Go.Proofs.Ytgcmcgbkdeealaa
