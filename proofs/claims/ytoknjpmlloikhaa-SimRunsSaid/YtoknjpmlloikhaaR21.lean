/- Layer 8: SimRuns, walked. -/
import Derived.Test.YtoknjpmlloikhaaR20
namespace Go.Proofs.Ytoknjpmlloikhaa
set_option linter.unusedVariables false
set_option linter.unusedSimpArgs false
open Go Go.RowKit

section
variable {P : Program} {n : Nat} {w0 : World} {f0 : FP} {ops : Array Oper} {m : Bool} {rest : List Oper} {QC : Exit → Fr → World → Prop} {f : Fr} {L : List HP} {x y : Operand} {d : Tmp} {ty t yt : TypeId} {pos : String} {after : Array Edge}
theorem s_neE {k : IntKind} {a b : Int} (hx : ev f x = .int k a) (hy : ev f y = .int k b) (he : a = b) (h : sO P n w0 f0 ops m rest QC (up f d (.bool false)) L) (hd : Nat.blt d n = true := by rfl) : sO P n w0 f0 ops m (⟨some d, .binOp .neq t x y yt, ty, pos, after, none⟩ :: rest) QC f L := by
  refine s_neq hx hy ?_ hd
  rw [decide_eq_true he]
  exact h
theorem s_andE {k : IntKind} {a b r : Int} (hx : ev f x = .int k a) (hy : ev f y = .int k b) (he : k.wrap (BitVec.ofInt k.bits a &&& BitVec.ofInt k.bits b).toNat = r) (h : sO P n w0 f0 ops m rest QC (up f d (.int k r)) L) (hd : Nat.blt d n = true := by rfl) : sO P n w0 f0 ops m (⟨some d, .binOp .and t x y yt, ty, pos, after, none⟩ :: rest) QC f L := by
  subst he
  exact s_and hx hy h hd
/-- Whole numbers that are the same. -/
theorem s_neT {k : IntKind} {a : Int} (hx : ev f x = .int k a) (hy : ev f y = .int k a) (h : sO P n w0 f0 ops m rest QC (up f d (.bool false)) L) (hd : Nat.blt d n = true := by rfl) : sO P n w0 f0 ops m (⟨some d, .binOp .neq t x y yt, ty, pos, after, none⟩ :: rest) QC f L :=
  s_neE hx hy rfl h hd
end
theorem m0_run {p : SsaProg} {mem : List (List Int)} {F : Nat} (hG : GoodP p) (hc : checkB p = true) (h : MchOk p (m00 mem)) : RunS p F (m0 p mem) [] p.fMain.toNat 0 (m0 p mem) ⟨p.fMain.toNat, 0, 0, putAll (parsF p p.fMain.toNat) [] fun _ => none, 0⟩ :=
  ⟨⟨0, rfl⟩, m0_ok hG hc h, rfl, rfl, rfl, rfl, rfl, rfl, Nat.zero_le _⟩
/-- What the law's call says of the run. -/
theorem own_run {p : SsaProg} {ins : List (Sl Int)} {F : Nat} {z : Int} {goes : Bool} {mem : List (List Int)} {leaks : List ApiLeak} {left trap : Int} {sp : Bool} (h : OwnR p F (m0 p (startA p ins)) [] 0 z goes mem leaks left trap sp) :
    (sp = false ∧ ∃ m, runOf p ins F = .out m ∧ m.trap = trap ∧ m.val = z ∧ m.leaks = leaks ∧ m.mem = mem ∧ (m.steps : Int) = (F : Int) - left ∧ MchOk p m) ∨
    (sp = true ∧ (runOf p ins F = .spent ∨ ∃ m, runOf p ins F = .out m ∧ 60 < m.deep)) := by
  rcases h with ⟨_, r2, r3, M2, ⟨k, r4⟩, r5, r6, r7, r8, r9, r10, r11⟩ | ⟨_, r1, r2, M2, ⟨k, r4⟩, r5, r6, r7, r8, r9, r10, r11, r12⟩ | ⟨_, r2, M2, ⟨k, r4⟩, r5, r6⟩
  · have hs : M2.steps = 0 + k := goM_steps r4
    rcases r11 with ⟨_, r12, r13⟩ | ⟨B, g, r11, _⟩
    · exact .inl ⟨r2, M2, runOf_out r4 r12 (by omega), by rw [r3]; exact r10, r13, r7, r6, by omega, r5⟩
    · exact absurd r11 (by simp)
  · have hs : M2.steps = 0 + k := goM_steps r4
    exact .inl ⟨r2, M2, runOf_out r4 r6 (by omega), r7, by rw [r1]; exact r8, r10, r9, by omega, r5⟩
  · refine .inr ⟨r2, ?_⟩
    rcases r6 with r6 | r6
    · exact .inl (runM_fuel r4 r5 (by omega))
    · cases hr : runOf p ins F with
      | spent => exact .inl rfl
      | out m =>
        obtain ⟨j, h1, h2, _⟩ := runOf_inv hr
        exact .inr ⟨m, rfl, Nat.lt_of_lt_of_le r6 (goM_deeper r4 r5 h1 h2)⟩
set_option maxHeartbeats 8000000 in
theorem simRuns_spec (p : SsaProg) (ins : Sl (Sl Int)) (fuel : Int) : Spec Try.prog 3 [.agg (Enc.enc p).toArray, .slice ins.A ins.xs.length ins.c, .int .i64 fuel] [] (fun ok w => RdD ok w p ∧ RdD ok w ins) fun r L' => r = .bool true ∧ L' = [] := by
  refine spec_of Try.func3 rfl rfl fun w0 f0 hR => ?_
  obtain ⟨hRp, hRi⟩ := hR
  obtain ⟨F, hF, hFw0⟩ := and_mask fuel 1023 (by decide)
  have hFw : IntKind.i64.wrap ((BitVec.ofInt IntKind.i64.bits fuel &&& BitVec.ofInt IntKind.i64.bits 1023).toNat : Int) = (F : Int) := hFw0
  (repeat' (first | refine s_assign ?_ | refine s_nil ?_ | (refine k_C ?_; first | refine s_seq ?_ | refine s_region ?_) | (refine k_E ?_; refine e_seq ?_) | (refine s_box _ rfl ?_; intro b)))
  refine s_call0 head08_spec rfl (fun _ _ => trivial) ?_
  rintro r L' ⟨rfl, rfl⟩
  (repeat' (first | refine s_nil ?_ | (refine k_C ?_; first | refine s_seq ?_ | refine s_region ?_ | refine s_skip ?_ | refine s_iff rfl ?_) | (refine k_E ?_; refine e_seq ?_) | (refine k_load ?_; refine s_ldBW rfl rfl ?_) | refine s_not rfl ?_))
  refine s_call0 (few_spec p) rfl (fun w1 H => H.rdD (by infer_instance)) ?_
  rintro r L' ⟨fw, rfl, rfl, hfw⟩
  cases fw with
  | false =>
    (repeat' (first | refine s_move ?_ | refine s_assign ?_ | refine s_nil ?_ | (refine k_C ?_; first | refine s_seq ?_ | refine s_region ?_ | refine s_ret ?_ | refine s_ift rfl ?_) | (refine k_E ?_; first | refine e_seq ?_ | refine e_seq_ret ?_) | (refine k_guard ?_; refine s_off rfl rfl rfl rfl ?_) | refine s_not rfl ?_ | refine s_pick rfl ?_))
    exact e_done rfl rfl [] (PSub.take [] rfl) ⟨rfl, rfl⟩
  | true =>
    have hp := hfw rfl
    (repeat' (first | refine s_move ?_ | (refine k_guard ?_; refine s_on rfl rfl ?_) | refine s_not rfl ?_))
    refine s_call0 (few08_spec ins) rfl (fun w1 H => H.rdD (by infer_instance)) ?_
    rintro r L' ⟨fw2, rfl, rfl, hfw2⟩
    cases fw2 with
    | false =>
      (repeat' (first | refine s_assign ?_ | refine s_nil ?_ | (refine k_C ?_; first | refine s_seq ?_ | refine s_region ?_ | refine s_ret ?_ | refine s_ift rfl ?_) | (refine k_E ?_; first | refine e_seq ?_ | refine e_seq_ret ?_) | (refine k_guard ?_; refine s_on rfl rfl ?_) | refine s_not rfl ?_ | refine s_pick rfl ?_))
      exact e_done rfl rfl [] (PSub.take [] rfl) ⟨rfl, rfl⟩
    | true =>
      have hi := hfw2 rfl
      (repeat' (first | refine s_move ?_ | refine s_nil ?_ | (refine k_C ?_; first | refine s_seq ?_ | refine s_region ?_ | refine s_skip ?_ | refine s_iff rfl ?_) | (refine k_E ?_; refine e_seq ?_) | (refine k_load ?_; refine s_ldBW rfl rfl ?_) | (refine k_guard ?_; refine s_on rfl rfl ?_) | refine s_not rfl ?_ | refine s_pick rfl ?_))
      refine s_and rfl rfl ?_
      rw [hFw]
      skip
      refine s_call [] (run_spec p hp ins (by omega) (F : Int) (by omega)) rfl rfl (fun w1 f1 C => ⟨C.rd (by infer_instance), C.rd (by infer_instance)⟩) ?_
      rintro r L' (⟨hc, rfl, rfl⟩ | ⟨hc, h1, rfl, rfl⟩ | ⟨hc, ma, ha, hoka, Al, cl, Am0, cm0, ss, hss, rfl, rfl⟩)
      ·
        --{
        (repeat' (first | refine s_move ?_ | refine s_assign ?_ | refine s_nil ?_ | (refine k_C ?_; first | refine s_seq ?_ | refine s_region ?_) | (refine k_E ?_; refine e_seq ?_) | (refine k_load ?_; refine s_ldBW rfl rfl ?_) | (refine k_store ?_; refine s_stW _ rfl rfl ?_) | (refine s_alloc ?_; intro b) | refine s_extract rfl rfl ?_))
        refine s_call0 (check_spec p (fewP_pr hp)) rfl (fun w1 H => H.rdD (by infer_instance)) ?_
        rintro r L' ⟨rfl, rfl⟩
        rw [if_neg (by rw [hc]; decide)]
        (repeat' (first | refine s_move ?_ | refine s_assign ?_ | refine s_nil ?_ | (refine k_C ?_; first | refine s_seq ?_ | refine s_region ?_ | refine s_ret ?_ | refine s_ift rfl ?_) | (refine k_E ?_; first | refine e_seq ?_ | refine e_seq_ret ?_) | (refine k_load ?_; refine s_ldB rfl rfl ?_) | (refine k_bin ?_; first | refine s_eql rfl rfl ?_ | refine s_neq rfl rfl ?_) | (refine k_fld ?_; refine s_fldB rfl ?_) | (refine k_call ?_; refine s_len rfl ?_) | (refine k_guard ?_; refine s_on rfl rfl ?_) | refine s_pick rfl ?_))
        exact e_done rfl rfl [] (PSub.take [] rfl) ⟨rfl, rfl⟩
        --}
      ·
        --{
        (repeat' (first | refine s_move ?_ | refine s_assign ?_ | refine s_nil ?_ | (refine k_C ?_; first | refine s_seq ?_ | refine s_region ?_) | (refine k_E ?_; refine e_seq ?_) | (refine k_load ?_; refine s_ldBW rfl rfl ?_) | (refine k_store ?_; refine s_stW _ rfl rfl ?_) | (refine s_alloc ?_; intro b) | refine s_extract rfl rfl ?_))
        obtain ⟨b7, rfl⟩ : ∃ q, q = b := ⟨_, rfl⟩
        refine s_call0 (check_spec p (fewP_pr hp)) rfl (fun w1 H => H.rdD (by infer_instance)) ?_
        rintro r L' ⟨rfl, rfl⟩
        rw [if_pos hc]
        (repeat' (first | refine s_nil ?_ | (refine k_C ?_; first | refine s_seq ?_ | refine s_region ?_ | refine s_skip ?_ | refine s_iff rfl ?_) | (refine k_E ?_; refine e_seq ?_) | (refine k_load ?_; refine s_ldBW rfl rfl ?_) | (refine k_bin ?_; refine s_neq rfl rfl ?_)))
        refine s_call0 (ok08_spec p) rfl (fun w1 H => H.rdD (by infer_instance)) ?_
        rintro r L' ⟨ok, rfl, rfl, hok⟩
        cases ok with
        | false =>
          (repeat' (first | refine s_assign ?_ | refine s_nil ?_ | (refine k_C ?_; first | refine s_seq ?_ | refine s_region ?_ | refine s_ret ?_ | refine s_ift rfl ?_) | (refine k_E ?_; first | refine e_seq ?_ | refine e_seq_ret ?_) | refine s_not rfl ?_))
          exact e_done rfl rfl [] (PSub.take [] rfl) ⟨rfl, rfl⟩
        | true =>
        have hG := goodP_of hc
        obtain ⟨hma1, hma2, hma3⟩ := main_facts hc
        have hmc : p.fMain = ((p.fMain.toNat : Nat) : Int) := by omega
        (repeat' (first | refine s_nil ?_ | (refine k_C ?_; first | refine s_seq ?_ | refine s_skip ?_ | refine s_iff rfl ?_) | (refine k_E ?_; refine e_seq ?_) | refine s_not rfl ?_))
        refine s_draw _ 8 foI (by kernel_rfl) PSub.refl fun hD => ?_
        refine d_rd (fuel := 4) #[true, true, true, false, true, true, false, false, false] [0, 1, 2, 4, 5] ?FA1 hD (by kernel_rfl) ?hrA1 ?hnA1
        case hrA1 =>
          change sO _ _ _ _ _ _ (_ :: _ :: _ :: _ :: _ :: []) _ _ _
          (repeat' (first | refine s_move ?_ | (refine k_load ?_; refine s_ldBW rfl rfl ?_)))
          refine s_and rfl rfl ?_
          rw [hFw]
          (repeat' (first | refine s_nil ?_))
          exact e_F
        refine d_all (fuel := 3) [3] (by kernel_rfl) ⟨?_, trivial⟩
        change sO _ _ _ _ _ _ (_ :: []) _ _ _
        refine s_call0 (start_spec p ins (by have := hp.a; omega) (by omega)) rfl (fun w1 H => ⟨H.rdD (by infer_instance), H.rdD (by infer_instance)⟩) ?_
        rintro r L' ⟨Am, cm, ss0, rfl, hs0, rfl⟩
        (repeat' (first | refine s_nil ?_))
        refine e_sd (PSub.dropL [_, _]) ?_
        refine d_rd (fuel := 2) #[true, true, true, true, true, true, true, false, false] [6] ?FB1 hD (by kernel_rfl) ?hrB1 ?hnB1
        case hrB1 =>
          change sO _ _ _ _ _ _ (_ :: []) _ _ _
          refine s_bld (⟨p, ⟨Am, cm, ss0⟩, ⟨none, 0, []⟩, (F : Int), 0, false⟩ : Palingslaw08Own) (by kernel_rfl) ?_
          (repeat' (first | refine s_nil ?_))
          exact e_F
        refine d_all (fuel := 1) [7] (by kernel_rfl) ⟨?_, trivial⟩
        change sO _ _ _ _ _ _ (_ :: []) _ _ _
        (repeat' (first | refine s_nil ?_ | (refine s_box _ rfl ?_; intro b)))
        obtain ⟨bo, rfl⟩ : ∃ q, q = b := ⟨_, rfl⟩
        refine e_sd (PSub.tlD.trans (PSub.dropL [_, _])) ?_
        refine d_end hD (by kernel_rfl) rfl ?_
        change sO _ _ _ _ _ _ (_ :: []) _ _ _
        (repeat' (first | refine s_move ?_ | refine s_assign ?_ | refine s_nil ?_ | (refine k_C ?_; first | refine s_seq ?_ | refine s_region ?_) | (refine k_E ?_; refine e_seq ?_) | (refine k_load ?_; refine s_ldB rfl rfl ?_) | (refine k_fld ?_; refine s_fldB rfl ?_)))
        have hmk : MchOk p (m00 (startA p ins.xs)) := by
          obtain ⟨q1, q2⟩ := startA_ok (p := p) (ins := ins.xs) fun s hs x hx => by
            obtain ⟨k, hk, hk2⟩ := List.mem_iff_getElem.1 hs
            rw [← nth_get hk] at hk2
            subst hk2
            obtain ⟨j, hj, rfl⟩ := List.mem_iff_getElem.1 hx
            rw [← nth_get hj]
            exact RdD.int (ok := okOf w0 f0) (w := w0) (by infer_instance)
          exact m00_ok q1 q2
        have hspec := (ownCall_spec p hp hG F hF bo Am cm 61 p.fMain.toNat ⟨none, 0, []⟩ [] (m0 p (startA p ins.xs)) 0 ss0 none 0 rfl hma2 (by show (parsF p p.fMain.toNat).length ≤ 0; omega) (m0_run hG hc hmk) (Nat.le_refl _) hs0).weaken (RR' := fun v L' => ∃ z goes ss2 Al2 cl2 lk2 left2 trap2, v = .tuple #[.int .i64 z, .bool goes] ∧ L' = [var 41 bo (⟨p, ⟨Am, cm, ss2⟩, ⟨Al2, cl2, lk2⟩, left2, trap2, true⟩ : Palingslaw08Own), own 86 Al2 lk2.length cl2 lk2, own 45 Am ss2.length cm ss2, rws 2 ss2]) (fun _ _ h => h) (by
          rintro v L' ⟨z, goes, ss2, Al2, cl2, lk2, left2, trap2, sp2, rfl, rfl, hown⟩
          rcases own_run hown with ⟨_, m, q, _⟩ | ⟨rfl, _⟩
          · rw [h1] at q; cases q
          · exact ⟨z, goes, ss2, Al2, cl2, lk2, left2, trap2, rfl, rfl⟩)
        have hst0 : (F : Int) - ((m0 p (startA p ins.xs)).steps : Int) = (F : Int) := Int.sub_zero _
        refine so_sub (L' := [var 41 bo (⟨p, ⟨Am, cm, ss0⟩, ⟨none, 0, (m0 p (startA p ins.xs)).leaks⟩, ((F : Int) - ((m0 p (startA p ins.xs)).steps : Int)), 0, false⟩ : Palingslaw08Own), own 86 none (m0 p (startA p ins.xs)).leaks.length 0 (m0 p (startA p ins.xs)).leaks, own 45 Am ss0.length cm ss0, rws 2 ss0, var 33 b7 (Enc.dflt : SimResult)]) ((PSub.nilOwn (α := ApiLeak) 86).trans ((PSub.take (L' := [var 41 bo (⟨p, ⟨Am, cm, ss0⟩, ⟨none, 0, ([] : List ApiLeak)⟩, (F : Int), 0, false⟩ : Palingslaw08Own), own 86 none ([] : List ApiLeak).length 0 ([] : List ApiLeak), own 45 Am ss0.length cm ss0, rws 2 ss0, var 33 b7 (Enc.dflt : SimResult)]) [1, 0, 0, 0, 0] (by kernel_rfl)).trans (PSub.eq (by rw [hst0]; rfl)))) ?_
        refine s_call (L2 := [var 33 b7 (Enc.dflt : SimResult)]) [0, 0, 0, 0] hspec (by show [_, Value.int .i64 p.fMain, _, _] = _; rw [hmc]; rfl) rfl (fun w1 f1 C => ⟨C.rd (by infer_instance), ⟨Dp.dflt _ _⟩⟩) ?_
        rintro v L' ⟨z, goes, ss2, Al2, cl2, lk2, left2, trap2, rfl, rfl⟩
        (repeat' (first | refine s_move ?_ | refine s_assign ?_ | refine s_nil ?_ | (refine k_C ?_; first | refine s_seq ?_ | refine s_region ?_ | refine s_ret ?_ | refine s_ift rfl ?_) | (refine k_E ?_; first | refine e_seq ?_ | refine e_seq_ret ?_) | (refine k_load ?_; refine s_ldB rfl rfl ?_) | (refine k_bin ?_; refine s_eql rfl rfl ?_) | (refine k_fld ?_; refine s_fldB rfl ?_) | (refine k_guard ?_; first | refine s_on rfl rfl ?_ | refine s_off rfl rfl rfl rfl ?_ | refine s_offU rfl rfl rfl rfl ?_) | refine s_pick rfl ?_ | refine s_extract rfl rfl ?_ | refine s_nilck rfl ?_))
        exact e_done rfl rfl [] (PSub.take [] rfl) ⟨rfl, rfl⟩
        --}
      ·
        --{
        (repeat' (first | refine s_move ?_ | refine s_assign ?_ | refine s_nil ?_ | (refine k_C ?_; first | refine s_seq ?_ | refine s_region ?_) | (refine k_E ?_; refine e_seq ?_) | (refine k_load ?_; refine s_ldBW rfl rfl ?_) | (refine k_store ?_; refine s_stW _ rfl rfl ?_) | (refine s_alloc ?_; intro b) | refine s_extract rfl rfl ?_))
        obtain ⟨b7, rfl⟩ : ∃ q, q = b := ⟨_, rfl⟩
        refine s_call0 (check_spec p (fewP_pr hp)) rfl (fun w1 H => H.rdD (by infer_instance)) ?_
        rintro r L' ⟨rfl, rfl⟩
        rw [if_pos hc]
        (repeat' (first | refine s_nil ?_ | (refine k_C ?_; first | refine s_seq ?_ | refine s_region ?_ | refine s_skip ?_ | refine s_iff rfl ?_) | (refine k_E ?_; refine e_seq ?_) | (refine k_load ?_; refine s_ldBW rfl rfl ?_) | (refine k_bin ?_; refine s_neq rfl rfl ?_)))
        refine s_call0 (ok08_spec p) rfl (fun w1 H => H.rdD (by infer_instance)) ?_
        rintro r L' ⟨ok, rfl, rfl, hok⟩
        cases ok with
        | false =>
          (repeat' (first | refine s_assign ?_ | refine s_nil ?_ | (refine k_C ?_; first | refine s_seq ?_ | refine s_region ?_ | refine s_ret ?_ | refine s_ift rfl ?_) | (refine k_E ?_; first | refine e_seq ?_ | refine e_seq_ret ?_) | refine s_not rfl ?_))
          exact e_done rfl rfl [] (PSub.take [] rfl) ⟨rfl, rfl⟩
        | true =>
        have hG := goodP_of hc
        obtain ⟨hma1, hma2, hma3⟩ := main_facts hc
        have hmc : p.fMain = ((p.fMain.toNat : Nat) : Int) := by omega
        (repeat' (first | refine s_nil ?_ | (refine k_C ?_; first | refine s_seq ?_ | refine s_skip ?_ | refine s_iff rfl ?_) | (refine k_E ?_; refine e_seq ?_) | refine s_not rfl ?_))
        refine s_draw _ 8 foI (by kernel_rfl) PSub.refl fun hD => ?_
        refine d_rd (fuel := 4) #[true, true, true, false, true, true, false, false, false] [0, 1, 2, 4, 5] ?FA2 hD (by kernel_rfl) ?hrA2 ?hnA2
        case hrA2 =>
          change sO _ _ _ _ _ _ (_ :: _ :: _ :: _ :: _ :: []) _ _ _
          (repeat' (first | refine s_move ?_ | (refine k_load ?_; refine s_ldBW rfl rfl ?_)))
          refine s_and rfl rfl ?_
          rw [hFw]
          (repeat' (first | refine s_nil ?_))
          exact e_F
        refine d_all (fuel := 3) [3] (by kernel_rfl) ⟨?_, trivial⟩
        change sO _ _ _ _ _ _ (_ :: []) _ _ _
        refine s_call0 (start_spec p ins (by have := hp.a; omega) (by omega)) rfl (fun w1 H => ⟨H.rdD (by infer_instance), H.rdD (by infer_instance)⟩) ?_
        rintro r L' ⟨Am, cm, ss0, rfl, hs0, rfl⟩
        (repeat' (first | refine s_nil ?_))
        refine e_sd (PSub.dropL [_, _]) ?_
        refine d_rd (fuel := 2) #[true, true, true, true, true, true, true, false, false] [6] ?FB2 hD (by kernel_rfl) ?hrB2 ?hnB2
        case hrB2 =>
          change sO _ _ _ _ _ _ (_ :: []) _ _ _
          refine s_bld (⟨p, ⟨Am, cm, ss0⟩, ⟨none, 0, []⟩, (F : Int), 0, false⟩ : Palingslaw08Own) (by kernel_rfl) ?_
          (repeat' (first | refine s_nil ?_))
          exact e_F
        refine d_all (fuel := 1) [7] (by kernel_rfl) ⟨?_, trivial⟩
        change sO _ _ _ _ _ _ (_ :: []) _ _ _
        (repeat' (first | refine s_nil ?_ | (refine s_box _ rfl ?_; intro b)))
        obtain ⟨bo, rfl⟩ : ∃ q, q = b := ⟨_, rfl⟩
        refine e_sd (PSub.tlD.trans (PSub.dropL [_, _])) ?_
        refine d_end hD (by kernel_rfl) rfl ?_
        change sO _ _ _ _ _ _ (_ :: []) _ _ _
        (repeat' (first | refine s_move ?_ | refine s_assign ?_ | refine s_nil ?_ | (refine k_C ?_; first | refine s_seq ?_ | refine s_region ?_) | (refine k_E ?_; refine e_seq ?_) | (refine k_load ?_; refine s_ldB rfl rfl ?_) | (refine k_fld ?_; refine s_fldB rfl ?_)))
        have hmk : MchOk p (m00 (startA p ins.xs)) := by
          obtain ⟨q1, q2⟩ := startA_ok (p := p) (ins := ins.xs) fun s hs x hx => by
            obtain ⟨k, hk, hk2⟩ := List.mem_iff_getElem.1 hs
            rw [← nth_get hk] at hk2
            subst hk2
            obtain ⟨j, hj, rfl⟩ := List.mem_iff_getElem.1 hx
            rw [← nth_get hj]
            exact RdD.int (ok := okOf w0 f0) (w := w0) (by infer_instance)
          exact m00_ok q1 q2
        have hspec := (ownCall_spec p hp hG F hF bo Am cm 61 p.fMain.toNat ⟨none, 0, []⟩ [] (m0 p (startA p ins.xs)) 0 ss0 none 0 rfl hma2 (by show (parsF p p.fMain.toNat).length ≤ 0; omega) (m0_run hG hc hmk) (Nat.le_refl _) hs0).weaken (RR' := fun v L' => (∃ goes ss2 Al2 cl2, v = .tuple #[.int .i64 ma.val, .bool goes] ∧ L' = [var 41 bo (⟨p, ⟨Am, cm, ss2⟩, ⟨Al2, cl2, ma.leaks⟩, ((F : Int) - (ma.steps : Int)), ma.trap, false⟩ : Palingslaw08Own), own 86 Al2 ma.leaks.length cl2 ma.leaks, own 45 Am ss2.length cm ss2, rws 2 ss2] ∧ ss2.map (·.xs) = ma.mem ∧ ma.steps ≤ F) ∨
            (60 < ma.deep ∧ ∃ z goes ss2 Al2 cl2 lk2 left2 trap2, v = .tuple #[.int .i64 z, .bool goes] ∧ L' = [var 41 bo (⟨p, ⟨Am, cm, ss2⟩, ⟨Al2, cl2, lk2⟩, left2, trap2, true⟩ : Palingslaw08Own), own 86 Al2 lk2.length cl2 lk2, own 45 Am ss2.length cm ss2, rws 2 ss2])) (fun _ _ h => h) (by
          rintro v L' ⟨z, goes, ss2, Al2, cl2, lk2, left2, trap2, sp2, rfl, rfl, hown⟩
          rcases own_run hown with ⟨rfl, m, q, q1, q2, q3, q4, q5, q6⟩ | ⟨rfl, q | ⟨m, q, q1⟩⟩
          · rw [ha] at q
            cases q
            obtain ⟨_, _, _, _, q7, q8⟩ := runOf_inv ha
            subst q1 q2 q3
            have q9 : left2 = (F : Int) - (ma.steps : Int) := by omega
            subst q9
            exact .inl ⟨goes, ss2, Al2, cl2, rfl, rfl, q4.symm, by omega⟩
          · rw [ha] at q; cases q
          · rw [ha] at q
            cases q
            exact .inr ⟨q1, z, goes, ss2, Al2, cl2, lk2, left2, trap2, rfl, rfl⟩)
        have hst0 : (F : Int) - ((m0 p (startA p ins.xs)).steps : Int) = (F : Int) := Int.sub_zero _
        refine so_sub (L' := [var 41 bo (⟨p, ⟨Am, cm, ss0⟩, ⟨none, 0, (m0 p (startA p ins.xs)).leaks⟩, ((F : Int) - ((m0 p (startA p ins.xs)).steps : Int)), 0, false⟩ : Palingslaw08Own), own 86 none (m0 p (startA p ins.xs)).leaks.length 0 (m0 p (startA p ins.xs)).leaks, own 45 Am ss0.length cm ss0, rws 2 ss0, var 33 b7 (⟨ma.val, ma.trap, ⟨Al, cl, ma.leaks⟩, ma.steps, ma.deep, ⟨Am0, cm0, ss⟩⟩ : SimResult), own 86 Al ma.leaks.length cl ma.leaks, own 45 Am0 ss.length cm0 ss, rws 2 ss]) ((PSub.nilOwn (α := ApiLeak) 86).trans ((PSub.take (L' := [var 41 bo (⟨p, ⟨Am, cm, ss0⟩, ⟨none, 0, ([] : List ApiLeak)⟩, (F : Int), 0, false⟩ : Palingslaw08Own), own 86 none ([] : List ApiLeak).length 0 ([] : List ApiLeak), own 45 Am ss0.length cm ss0, rws 2 ss0, var 33 b7 (⟨ma.val, ma.trap, ⟨Al, cl, ma.leaks⟩, ma.steps, ma.deep, ⟨Am0, cm0, ss⟩⟩ : SimResult), own 86 Al ma.leaks.length cl ma.leaks, own 45 Am0 ss.length cm0 ss, rws 2 ss]) [1, 0, 0, 0, 0, 0, 0, 0] (by kernel_rfl)).trans (PSub.eq (by rw [hst0]; rfl)))) ?_
        refine s_call (L2 := [var 33 b7 (⟨ma.val, ma.trap, ⟨Al, cl, ma.leaks⟩, ma.steps, ma.deep, ⟨Am0, cm0, ss⟩⟩ : SimResult), own 86 Al ma.leaks.length cl ma.leaks, own 45 Am0 ss.length cm0 ss, rws 2 ss]) [0, 0, 0, 0] hspec (by show [_, Value.int .i64 p.fMain, _, _] = _; rw [hmc]; rfl) rfl (fun w1 f1 C => ⟨C.rd (by infer_instance), ⟨Dp.dflt _ _⟩⟩) ?_
        rintro v L' (⟨goes, ss2, Al2, cl2, rfl, rfl, hs2, hle⟩ | ⟨hdp, z, goes, ss2, Al2, cl2, lk2, left2, trap2, rfl, rfl⟩)
        rotate_left
        · have hdp2 : (60 : Int) < (ma.deep : Int) := by omega
          (repeat' (first | refine s_move ?_ | refine s_assign ?_ | refine s_nil ?_ | (refine k_C ?_; first | refine s_seq ?_ | refine s_region ?_ | refine s_ret ?_ | refine s_ift rfl ?_) | (refine k_E ?_; first | refine e_seq ?_ | refine e_seq_ret ?_) | (refine k_load ?_; refine s_ldB rfl rfl ?_) | (refine k_bin ?_; first | refine s_eql rfl rfl ?_ | refine s_gtr rfl rfl ?_) | (refine k_fld ?_; refine s_fldB rfl ?_) | (refine k_guard ?_; first | refine s_on rfl rfl ?_ | refine s_off rfl rfl rfl rfl ?_) | refine s_pick rfl ?_ | refine s_extract rfl rfl ?_ | refine s_nilck rfl ?_))
          exact e_done rfl rfl [] (PSub.take [] rfl) ⟨congrArg Value.bool (decide_eq_true hdp2), rfl⟩
        (repeat' (first | refine s_move ?_ | refine s_assign ?_ | refine s_nil ?_ | (refine k_C ?_; first | refine s_seq ?_ | refine s_region ?_ | refine s_skip ?_ | refine s_iff rfl ?_) | (refine k_E ?_; refine e_seq ?_) | (refine k_load ?_; refine s_ldB rfl rfl ?_) | (refine k_fld ?_; refine s_fldB rfl ?_) | refine s_extract rfl rfl ?_ | refine s_nilck rfl ?_))
        have hll : ss.length = ss2.length := by have := congrArg List.length (hss.trans hs2.symm); rwa [List.length_map, List.length_map] at this
        have hrw : ∀ k, k < ss.length → (nth ss k).xs = (nth ss2 k).xs := fun k hk => by rw [rows_nth hss hk, rows_nth hs2 (by omega)]
        refine s_draw _ 49 foI (by kernel_rfl) PSub.refl fun hD => ?_
        refine d_rd (fuel := 26) #[true, true, true, true, true, true, true, true, true, true, true, true, true, true, true, true, true, true, true, true, true, true, true, true, false, false, false, false, false, false, false, false, false, false, false, false, false, false, false, false, false, false, false, false, false, false, false, false, false, false] [0, 1, 2, 3, 4, 5, 6, 7, 8, 9, 10, 11, 12, 13, 14, 15, 16, 17, 18, 19, 20, 21, 22, 23] ?F14 hD (by kernel_rfl) ?hr14 ?hn14
        case hr14 =>
          change sO _ _ _ _ _ _ (_ :: _ :: _ :: _ :: _ :: _ :: _ :: _ :: _ :: _ :: _ :: _ :: _ :: _ :: _ :: _ :: _ :: _ :: _ :: _ :: _ :: _ :: _ :: _ :: []) _ _ _
          repeat (first | refine s_neT rfl rfl ?_ | (first | refine s_move ?_ | refine s_nil ?_ | (refine k_load ?_; refine s_ldB rfl rfl ?_) | (refine k_fld ?_; refine s_fldB rfl ?_) | (refine k_guard ?_; refine s_on rfl rfl ?_) | refine s_pick rfl ?_ | refine s_nilck rfl ?_))
          exact e_F
        refine d_all (fuel := 25) [24] (by kernel_rfl) ⟨?_, trivial⟩
        change sO _ _ _ _ _ _ (_ :: []) _ _ _
        repeat (first | (refine k_guard ?_; refine s_on rfl rfl ?_))
        have lrd : ∀ {w1 : World} {f1 : FP} (l : ApiLeak), l ∈ ma.leaks → Dp.rd (okOf w1 f1) w1 l := fun l hl => hoka.lw l hl
        refine s_call [] (leaks_same ⟨Al, cl, ma.leaks⟩ ⟨Al2, cl2, ma.leaks⟩ rfl) rfl rfl (fun w1 f1 C => ⟨C.ownI Al lrd, C.ownI Al2 lrd⟩) ?_
        rintro r L' ⟨rfl, rfl⟩
        (repeat' (first | refine s_nil ?_))
        refine e_sd PSub.refl ?_
        refine d_rd (fuel := 1) #[true, true, true, true, true, true, true, true, true, true, true, true, true, true, true, true, true, true, true, true, true, true, true, true, true, true, true, true, true, true, true, true, true, true, true, true, true, true, true, true, true, true, true, true, true, true, true, true, true, false] [25, 26, 27, 28, 29, 30, 31, 32, 33, 34, 35, 36, 37, 38, 39, 40, 41, 42, 43, 44, 45, 46, 47, 48] ?F15 hD (by kernel_rfl) ?hr15 ?hn15
        case hr15 =>
          change sO _ _ _ _ _ _ (_ :: _ :: _ :: _ :: _ :: _ :: _ :: _ :: _ :: _ :: _ :: _ :: _ :: _ :: _ :: _ :: _ :: _ :: _ :: _ :: _ :: _ :: _ :: _ :: []) _ _ _
          repeat (first | refine s_neT rfl rfl ?_ | refine s_andE rfl rfl hFw ?_ | refine s_neE rfl rfl (by show (ma.steps : Int) = (F : Int) - ((F : Int) - (ma.steps : Int)); omega) ?_ | refine s_neE rfl rfl (by show (ss.length : Int) = (ss2.length : Int); omega) ?_ | (first | refine s_move ?_ | refine s_nil ?_ | (refine k_load ?_; refine s_ldB rfl rfl ?_) | (refine k_bin ?_; refine s_sub64 rfl rfl om ?_) | (refine k_fld ?_; refine s_fldB rfl ?_) | (refine k_call ?_; refine s_len rfl ?_) | (refine k_guard ?_; refine s_on rfl rfl ?_) | refine s_not rfl ?_ | refine s_pick rfl ?_ | refine s_nilck rfl ?_))
          exact e_F
        refine d_end hD (by kernel_rfl) rfl ?_
        change sO _ _ _ _ _ _ (_ :: []) _ _ _
        (repeat' (first | refine s_move ?_ | refine s_nil ?_ | (refine k_C ?_; first | refine s_seq ?_ | refine s_region ?_ | refine s_skip ?_ | refine s_block ?_ | refine s_iff rfl ?_) | (refine k_E ?_; refine e_seq ?_) | (refine k_load ?_; refine s_ldB rfl rfl ?_) | (refine k_fld ?_; refine s_fldB rfl ?_) | (refine k_call ?_; refine s_len rfl ?_) | refine s_pick rfl ?_))
        refine s_sub (L' := [var 41 bo (⟨p, ⟨Am, cm, ss2⟩, ⟨Al2, cl2, ma.leaks⟩, ((F : Int) - (ma.steps : Int)), ma.trap, false⟩ : Palingslaw08Own), own 86 Al2 ma.leaks.length cl2 ma.leaks, own 45 Am ss2.length cm ss2, rws 2 ss2, var 33 b7 (⟨ma.val, ma.trap, ⟨Al, cl, ma.leaks⟩, ma.steps, ma.deep, ⟨Am0, cm0, ss⟩⟩ : SimResult), own 86 Al ma.leaks.length cl ma.leaks, own 45 Am0 ss.length cm0 ss, rws 2 ss]) (PSub.take [0, 0, 0, 0, 0, 0, 0, 0] (by kernel_rfl)) ?_
        have hsl : ss.length ≤ 100000 := by
          have h1 := congrArg List.length hss
          rw [List.length_map, hoka.memN] at h1
          have := hp.a
          omega
        refine s_loop (σ := Nat) (fun k => [(7, .pointer (some ⟨b7, 0, none⟩)), (9, .pointer (some ⟨bo, 0, none⟩)), (133, .int .i64 ss.length), (134, .int .i64 (k : Nat))]) (fun _ => [var 41 bo (⟨p, ⟨Am, cm, ss2⟩, ⟨Al2, cl2, ma.leaks⟩, ((F : Int) - (ma.steps : Int)), ma.trap, false⟩ : Palingslaw08Own), own 86 Al2 ma.leaks.length cl2 ma.leaks, own 45 Am ss2.length cm ss2, rws 2 ss2, var 33 b7 (⟨ma.val, ma.trap, ⟨Al, cl, ma.leaks⟩, ma.steps, ma.deep, ⟨Am0, cm0, ss⟩⟩ : SimResult), own 86 Al ma.leaks.length cl ma.leaks, own 45 Am0 ss.length cm0 ss, rws 2 ss]) (fun k => k ≤ ss.length) (fun k => ss.length - k) 0 (by repeat (first | exact trivial | refine ⟨rfl, ?_⟩)) (Nat.zero_le _) PSub.refl ?_
        rintro g k hk
        (repeat' (first | refine s_nil ?_ | (refine k_C ?_; first | refine s_seq ?_ | refine s_region ?_) | (refine k_E ?_; refine e_seq ?_) | (refine k_bin ?_; refine s_lss rfl rfl ?_)))
        (first | (refine k_C ?_; (refine s_ifd rfl ?_ ?_ <;> intro hc <;> try (exfalso; omega))))
        · have hkl : k < ss.length := by omega
          have hkl2 : k < ss2.length := by omega
          have hxe := hrw k hkl
          have hxl : (nth ss k).xs.length = (nth ss2 k).xs.length := by rw [hxe]
          have hx4 : (nth ss k).xs.length ≤ 4096 := by
            rw [rows_nth hss hkl]
            refine (hoka.mem k ?_).2.1
            rw [← hss, List.length_map]
            exact hkl
          (repeat' (first | refine s_move ?_ | refine s_assign ?_ | refine s_nil ?_ | (refine k_C ?_; first | refine s_seq ?_ | refine s_region ?_ | refine s_stillP foI rfl (by kernel_rfl) ?_ | refine s_skip ?_ | refine s_block ?_ | (refine s_ifn rfl ?_ ?_ <;> intro hc <;> try (exfalso; omega))) | (refine k_E ?_; refine e_seq ?_) | (refine k_load ?_; first | refine s_ldB rfl rfl ?_ | refine s_ld rfl om rfl ?_) | (refine k_bin ?_; refine s_neq rfl rfl ?_) | (refine k_fld ?_; refine s_fldB rfl ?_) | (refine k_idx ?_; refine s_idx rfl rfl om ?_) | (refine k_call ?_; refine s_len rfl ?_) | refine s_nilck rfl ?_))
          refine s_loop (σ := Nat) (fun j => [(7, .pointer (some ⟨b7, 0, none⟩)), (9, .pointer (some ⟨bo, 0, none⟩)), (12, .int .i64 (k : Nat)), (133, .int .i64 ss.length), (134, .int .i64 (k : Nat)), (157, .int .i64 (nth ss k).xs.length), (158, .int .i64 (j : Nat))]) (fun _ => [var 41 bo (⟨p, ⟨Am, cm, ss2⟩, ⟨Al2, cl2, ma.leaks⟩, ((F : Int) - (ma.steps : Int)), ma.trap, false⟩ : Palingslaw08Own), own 86 Al2 ma.leaks.length cl2 ma.leaks, own 45 Am ss2.length cm ss2, rws 2 ss2, var 33 b7 (⟨ma.val, ma.trap, ⟨Al, cl, ma.leaks⟩, ma.steps, ma.deep, ⟨Am0, cm0, ss⟩⟩ : SimResult), own 86 Al ma.leaks.length cl ma.leaks, own 45 Am0 ss.length cm0 ss, rws 2 ss]) (fun j => j ≤ (nth ss k).xs.length) (fun j => (nth ss k).xs.length - j) 0 (by repeat (first | exact trivial | refine ⟨rfl, ?_⟩)) (Nat.zero_le _) PSub.refl ?_
          rintro g2 j hj
          (repeat' (first | refine s_nil ?_ | (refine k_C ?_; first | refine s_seq ?_ | refine s_region ?_) | (refine k_E ?_; refine e_seq ?_) | (refine k_bin ?_; refine s_lss rfl rfl ?_)))
          (first | (refine k_C ?_; (refine s_ifd rfl ?_ ?_ <;> intro hc <;> try (exfalso; omega))))
          · have hjl : j < (nth ss k).xs.length := by omega
            have hjl2 : j < (nth ss2 k).xs.length := by omega
            have hje : nth (nth ss k).xs j = nth (nth ss2 k).xs j := by rw [hxe]
            (repeat' (first | refine s_move ?_ | refine s_assign ?_ | refine s_nil ?_ | (refine k_C ?_; first | refine s_seq ?_ | refine s_region ?_ | refine s_stillP foI rfl (by kernel_rfl) ?_ | refine s_skip ?_ | refine s_block ?_ | (refine s_ifn rfl ?_ ?_ <;> intro hc <;> try (exfalso; omega))) | (refine k_E ?_; first | refine e_seq ?_ | refine e_bk ?_) | (refine k_load ?_; first | refine s_ldB rfl rfl ?_ | refine s_ld rfl om rfl ?_ | refine s_ldR rfl om rfl ?_) | (refine k_bin ?_; first | refine s_add1 rfl rfl om ?_ | refine s_neq rfl rfl ?_) | (refine k_fld ?_; refine s_fldB rfl ?_) | (refine k_idx ?_; first | refine s_idx rfl rfl om ?_ | refine s_idxR rfl rfl om ?_) | refine s_nilck rfl ?_))
            exact e_lp (j + 1) (by repeat (first | exact trivial | refine ⟨rfl, ?_⟩)) (by show j + 1 ≤ _; omega) (by show _ - _ < _ - _; omega) PSub.refl
          (repeat' (first | refine s_move ?_ | refine s_nil ?_ | (refine k_C ?_; first | refine s_region ?_ | refine s_exit ?_) | (refine k_E ?_; first | refine e_seq ?_ | refine e_seq_exit ?_ | refine e_bk_exit ?_ | refine e_bk ?_ | refine e_lp_exit ?_) | (refine k_bin ?_; refine s_add1 rfl rfl om ?_)))
          exact e_lp (k + 1) (by repeat (first | exact trivial | refine ⟨rfl, ?_⟩)) (by show k + 1 ≤ _; omega) (by show _ - _ < _ - _; omega) PSub.refl
        (repeat' (first | refine s_assign ?_ | refine s_nil ?_ | (refine k_C ?_; first | refine s_seq ?_ | refine s_region ?_ | refine s_exit ?_ | refine s_ret ?_) | (refine k_E ?_; first | refine e_seq ?_ | refine e_seq_exit ?_ | refine e_bk_exit ?_ | refine e_lp_exit ?_)))
        exact e_done rfl rfl [] (PSub.take [] rfl) ⟨rfl, rfl⟩
        --}
end Go.Proofs.Ytoknjpmlloikhaa
