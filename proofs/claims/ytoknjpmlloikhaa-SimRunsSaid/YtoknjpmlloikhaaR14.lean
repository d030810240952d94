/- Layer 8: SimFuel, walked. -/
import Derived.Test.YtoknjpmlloikhaaR13
namespace Go.Proofs.Ytoknjpmlloikhaa
set_option linter.unusedVariables false
set_option linter.unusedSimpArgs false
open Go Go.RowKit

section
variable {P : Program} {n : Nat} {w0 : World} {f0 : FP} {ops : Array Oper} {m : Bool} {rest : List Oper} {QC : Exit → Fr → World → Prop} {f : Fr} {L : List HP} {x y : Operand} {d : Tmp} {ty t yt : TypeId} {pos : String} {after : Array Edge}
/-- Whole numbers that are the same. -/
theorem s_eqT {k : IntKind} {a : Int} (hx : ev f x = .int k a) (hy : ev f y = .int k a) (h : sO P n w0 f0 ops m rest QC (up f d (.bool true)) L) (hd : Nat.blt d n = true := by rfl) : sO P n w0 f0 ops m (⟨some d, .binOp .eql t x y yt, ty, pos, after, none⟩ :: rest) QC f L := by
  refine s_eql hx hy ?_ hd
  rw [decide_eq_true (rfl : a = a)]
  exact h
end
theorem leaks_same (a b : Sl ApiLeak) (h : a.xs = b.xs) : Spec Try.prog 15 [.slice a.A a.xs.length a.c, .slice b.A b.xs.length b.c] [] (fun ok w => RdD ok w a ∧ RdD ok w b) fun r L' => r = .bool true ∧ L' = [] :=
  (leaks_spec a b).weaken (fun _ _ h => h) (by rintro v L' ⟨q, rfl, rfl, hq⟩; exact ⟨congrArg Value.bool (hq.2 h), rfl⟩)
set_option maxHeartbeats 8000000 in
theorem simFuel_spec (p : SsaProg) (ins : Sl (Sl Int)) (fuel more : Int) : Spec Try.prog 6 [.agg (Enc.enc p).toArray, .slice ins.A ins.xs.length ins.c, .int .i64 fuel, .int .i64 more] [] (fun ok w => RdD ok w p ∧ RdD ok w ins) fun r L' => r = .bool true ∧ L' = [] := by
  refine spec_of Try.func6 rfl rfl fun w0 f0 hR => ?_
  obtain ⟨hRp, hRi⟩ := hR
  (repeat' (first | refine s_assign ?_ | refine s_nil ?_ | (refine k_C ?_; first | refine s_seq ?_ | refine s_region ?_) | (refine k_E ?_; refine e_seq ?_) | (refine s_box _ rfl ?_; intro b)))
  refine s_call0 head08_spec rfl (fun _ _ => trivial) ?_
  rintro r L' ⟨rfl, rfl⟩
  (repeat' (first | refine s_move ?_ | refine s_nil ?_ | (refine k_C ?_; first | refine s_seq ?_ | refine s_region ?_ | refine s_skip ?_ | refine s_iff rfl ?_) | (refine k_E ?_; refine e_seq ?_) | refine s_not rfl ?_))
  refine s_call0 (few08_spec ins) rfl (fun w1 H => H.rdD (by infer_instance)) ?_
  rintro r L' ⟨fw, rfl, rfl, hfw⟩
  cases fw with
  | false =>
    (repeat' (first | refine s_move ?_ | refine s_assign ?_ | refine s_nil ?_ | (refine k_C ?_; first | refine s_seq ?_ | refine s_region ?_ | refine s_ret ?_ | refine s_ift rfl ?_) | (refine k_E ?_; first | refine e_seq ?_ | refine e_seq_ret ?_) | (refine k_guard ?_; refine s_off rfl rfl rfl rfl ?_) | refine s_not rfl ?_ | refine s_pick rfl ?_))
    exact e_done rfl rfl [] (PSub.take [] rfl) ⟨rfl, rfl⟩
  | true =>
    have hi := hfw rfl
    (repeat' (first | refine s_move ?_ | (refine k_load ?_; refine s_ldBW rfl rfl ?_) | (refine k_guard ?_; refine s_on rfl rfl ?_) | refine s_not rfl ?_))
    refine s_call0 (ok08_spec p) rfl (fun w1 H => H.rdD (by infer_instance)) ?_
    rintro r L' ⟨ok, rfl, rfl, hok⟩
    cases ok with
    | false =>
      (repeat' (first | refine s_assign ?_ | refine s_nil ?_ | (refine k_C ?_; first | refine s_seq ?_ | refine s_region ?_ | refine s_ret ?_ | refine s_ift rfl ?_) | (refine k_E ?_; first | refine e_seq ?_ | refine e_seq_ret ?_) | (refine k_guard ?_; refine s_on rfl rfl ?_) | refine s_not rfl ?_ | refine s_pick rfl ?_))
      exact e_done rfl rfl [] (PSub.take [] rfl) ⟨rfl, rfl⟩
    | true =>
      obtain ⟨hp, hc⟩ := hok rfl
      (repeat' (first | refine s_move ?_ | refine s_nil ?_ | (refine k_C ?_; first | refine s_seq ?_ | refine s_region ?_ | refine s_skip ?_ | refine s_iff rfl ?_) | (refine k_E ?_; refine e_seq ?_) | (refine k_guard ?_; refine s_on rfl rfl ?_) | refine s_not rfl ?_ | refine s_pick rfl ?_))
      refine s_andM (c := 511) rfl rfl (by decide) ?_
      intro F hF
      (repeat' (first | refine s_move ?_ | refine s_assign ?_ | refine s_nil ?_ | (refine k_C ?_; first | refine s_seq ?_ | refine s_region ?_) | (refine k_E ?_; refine e_seq ?_) | (refine k_load ?_; refine s_ldBW rfl rfl ?_)))
      refine s_call [] (run_spec p hp ins (by omega) (F : Int) (by omega)) rfl rfl (fun w1 f1 C => ⟨C.rd (by infer_instance), C.rd (by infer_instance)⟩) ?_
      rintro r L' (⟨h1, _⟩ | ⟨_, h1, rfl, rfl⟩ | ⟨_, ma, ha, hoka, Al, cl, Am, cm, ss, hss, rfl, rfl⟩)
      · rw [hc] at h1; cases h1
      · (repeat' (first | refine s_move ?_ | refine s_assign ?_ | refine s_nil ?_ | (refine k_C ?_; first | refine s_seq ?_ | refine s_region ?_) | (refine k_E ?_; refine e_seq ?_) | (refine k_load ?_; refine s_ldBW rfl rfl ?_) | (refine k_store ?_; refine s_stW _ rfl rfl ?_) | (refine s_alloc ?_; intro b) | refine s_extract rfl rfl ?_))
        refine s_andM (c := 511) rfl rfl (by decide) ?_
        intro G hG
        (repeat' (first | (refine k_bin ?_; refine s_add64 rfl rfl om ?_)))
        refine s_call [] (run_spec p hp ins (by omega) ((F + G : Nat) : Int) (by omega)) (by show [_, _, Value.int .i64 ((F : Int) + (G : Int))] = _; rfl) rfl (fun w1 f1 C => ⟨C.rd (by infer_instance), C.rd (by infer_instance)⟩) ?_
        rintro r L' h2
        obtain ⟨rb, eb, rfl⟩ : ∃ (rb : SimResult) (eb : Int), r = .tuple #[.agg (Enc.enc rb).toArray, .int .i64 eb] := by
          rcases h2 with ⟨_, h, _⟩ | ⟨_, _, h, _⟩ | ⟨_, _, _, _, _, _, _, _, _, _, h, _⟩ <;> exact ⟨_, _, h⟩
        refine so_sub (PSub.dropL L') ?_
        (repeat' (first | refine s_move ?_ | refine s_assign ?_ | refine s_nil ?_ | (refine k_C ?_; first | refine s_seq ?_ | refine s_region ?_ | refine s_ret ?_ | refine s_ift rfl ?_) | (refine k_E ?_; first | refine e_seq ?_ | refine e_seq_ret ?_) | (refine k_load ?_; refine s_ldB rfl rfl ?_) | (refine k_bin ?_; first | refine s_eql rfl rfl ?_ | refine s_neq rfl rfl ?_) | (refine k_fld ?_; refine s_fldB rfl ?_) | (refine k_store ?_; refine s_stW _ rfl rfl ?_) | (refine k_guard ?_; refine s_on rfl rfl ?_) | (refine s_alloc ?_; intro b) | refine s_pick rfl ?_ | refine s_extract rfl rfl ?_))
        exact e_done rfl rfl [] (PSub.take [] rfl) ⟨rfl, rfl⟩
      · obtain ⟨k, hk1, hk2, hk3, hk4, hk5⟩ := runOf_inv ha
        (repeat' (first | refine s_move ?_ | refine s_assign ?_ | refine s_nil ?_ | (refine k_C ?_; first | refine s_seq ?_ | refine s_region ?_) | (refine k_E ?_; refine e_seq ?_) | (refine k_load ?_; refine s_ldBW rfl rfl ?_) | (refine k_store ?_; refine s_stW _ rfl rfl ?_) | (refine s_alloc ?_; intro b) | refine s_extract rfl rfl ?_))
        refine s_andM (c := 511) rfl rfl (by decide) ?_
        intro G hG
        (repeat' (first | (refine k_bin ?_; refine s_add64 rfl rfl om ?_)))
        refine s_call [] (run_spec p hp ins (by omega) ((F + G : Nat) : Int) (by omega)) (by show [_, _, Value.int .i64 ((F : Int) + (G : Int))] = _; rfl) rfl (fun w1 f1 C => ⟨C.rd (by infer_instance), C.rd (by infer_instance)⟩) ?_
        have hb := runOf_out hk1 hk2 (show (k : Int) ≤ ((F + G : Nat) : Int) by omega)
        rintro r L' (⟨h1, _⟩ | ⟨_, h1, _⟩ | ⟨_, mb, h1, hokb, Al2, cl2, Am2, cm2, ss2, hss2, rfl, rfl⟩)
        · rw [hc] at h1; cases h1
        · rw [hb] at h1; cases h1
        rw [hb] at h1
        cases h1
        (repeat' (first | refine s_move ?_ | refine s_assign ?_ | refine s_nil ?_ | (refine k_C ?_; first | refine s_seq ?_ | refine s_region ?_ | refine s_skip ?_ | refine s_iff rfl ?_) | (refine k_E ?_; refine e_seq ?_) | (refine k_load ?_; first | refine s_ldB rfl rfl ?_ | refine s_ldBW rfl rfl ?_) | (refine k_bin ?_; refine s_neq rfl rfl ?_) | (refine k_fld ?_; refine s_fldB rfl ?_) | (refine k_store ?_; refine s_stW _ rfl rfl ?_) | (refine s_alloc ?_; intro b) | refine s_extract rfl rfl ?_))
        refine s_call [] (run_spec p hp ins (by omega) (ma.steps : Int) (by omega)) rfl rfl (fun w1 f1 C => ⟨C.rd (by infer_instance), C.rd (by infer_instance)⟩) ?_
        have hc3 := runOf_out hk1 hk2 (show (k : Int) ≤ (ma.steps : Int) by omega)
        rintro r L' (⟨h1, _⟩ | ⟨_, h1, _⟩ | ⟨_, mc, h1, hokc, Al3, cl3, Am3, cm3, ss3, hss3, rfl, rfl⟩)
        · rw [hc] at h1; cases h1
        · rw [hc3] at h1; cases h1
        rw [hc3] at h1
        cases h1
        (repeat' (first | refine s_move ?_ | refine s_assign ?_ | refine s_nil ?_ | (refine k_C ?_; first | refine s_seq ?_ | refine s_region ?_) | (refine k_E ?_; refine e_seq ?_) | (refine k_load ?_; first | refine s_ldB rfl rfl ?_ | refine s_ldBW rfl rfl ?_) | (refine k_bin ?_; refine s_sub64 rfl rfl om ?_) | (refine k_fld ?_; refine s_fldB rfl ?_) | (refine k_store ?_; refine s_stW _ rfl rfl ?_) | (refine s_alloc ?_; intro b) | refine s_extract rfl rfl ?_))
        refine s_call [] (run_spec p hp ins (by omega) ((ma.steps : Int) - 1) (by omega)) rfl rfl (fun w1 f1 C => ⟨C.rd (by infer_instance), C.rd (by infer_instance)⟩) ?_
        have hd4 := runOf_short hk1 hk3 (show (ma.steps : Int) - 1 < (k : Int) by omega)
        rintro r L' (⟨h1, _⟩ | ⟨_, _, rfl, rfl⟩ | ⟨_, md, h1, _⟩)
        · rw [hc] at h1; cases h1
        rotate_left
        · rw [hd4] at h1; cases h1
        repeat (first | refine s_eqT rfl rfl ?_ | (first | refine s_move ?_ | refine s_assign ?_ | refine s_nil ?_ | (refine k_C ?_; first | refine s_seq ?_ | refine s_region ?_) | (refine k_E ?_; refine e_seq ?_) | (refine k_load ?_; refine s_ldB rfl rfl ?_) | (refine k_fld ?_; refine s_fldB rfl ?_) | (refine k_store ?_; refine s_stW _ rfl rfl ?_) | (refine k_guard ?_; refine s_on rfl rfl ?_) | (refine s_alloc ?_; intro b) | refine s_pick rfl ?_ | refine s_extract rfl rfl ?_))
        have lrd : ∀ {w1 : World} {f1 : FP} (l : ApiLeak), l ∈ ma.leaks → Dp.rd (okOf w1 f1) w1 l := fun l hl => hoka.lw l hl
        refine s_call [] (leaks_same ⟨Al, cl, ma.leaks⟩ ⟨Al2, cl2, ma.leaks⟩ rfl) rfl rfl (fun w1 f1 C => ⟨C.ownI Al lrd, C.ownI Al2 lrd⟩) ?_
        rintro r L' ⟨rfl, rfl⟩
        repeat (first | refine s_eqT rfl rfl ?_ | (first | refine s_move ?_ | refine s_assign ?_ | refine s_nil ?_ | (refine k_C ?_; refine s_ret ?_) | (refine k_E ?_; refine e_seq ?_) | (refine k_load ?_; refine s_ldB rfl rfl ?_) | (refine k_fld ?_; refine s_fldB rfl ?_) | (refine k_guard ?_; refine s_on rfl rfl ?_) | refine s_pick rfl ?_))
        exact e_done rfl rfl [] (PSub.take [] rfl) ⟨rfl, rfl⟩
end Go.Proofs.Ytoknjpmlloikhaa
