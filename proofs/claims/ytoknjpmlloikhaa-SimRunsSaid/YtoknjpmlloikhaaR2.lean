/- Layer 8: the machine's small parts, walked. -/
import Derived.Test.YtoknjpmlloikhaaR1
import Derived.Test.YtoknjpmlloikhaaA10
import Derived.Test.YtoknjpmlloikhaaD1
namespace Go.Proofs.Ytoknjpmlloikhaa
set_option linter.unusedVariables false
set_option linter.unusedSimpArgs false
open Go Go.RowKit

noncomputable abbrev EW : EK Try.prog 2 Int := ekInt U_2
/-- The calls under way, as they are held. -/
def frsOf (fs : List Frm) (mi : Nat → Nat) : List SimFrame := fs.mapIdx fun j f => ⟨f.fn, f.block, f.at_, ⟨some (mi j)⟩, f.dst⟩
theorem leak_spec (b : Nat) (p : SsaProg) (fs : Sl SimFrame) (r : SimResult) (fin : Bool) (k x y : Int) (hl : r.fLeaks.xs.length ≤ 100000000) :
    Spec Try.prog 43 [.pointer (some ⟨b, 0, none⟩), .int .i64 k, .int .i64 x, .int .i64 y] [var 70 b (⟨p, fs, r, fin⟩ : SimMachine), own 86 r.fLeaks.A r.fLeaks.xs.length r.fLeaks.c r.fLeaks.xs] (fun _ _ => True)
      fun v L' => ∃ A c, L' = [var 70 b (⟨p, fs, (⟨r.fVal, r.fTrap, (⟨A, c, r.fLeaks.xs ++ [(⟨k, x, y⟩ : ApiLeak)]⟩ : Sl ApiLeak), r.fSteps, r.fDeep, r.fMem⟩ : SimResult), fin⟩ : SimMachine), own 86 A (r.fLeaks.xs ++ [(⟨k, x, y⟩ : ApiLeak)]).length c (r.fLeaks.xs ++ [(⟨k, x, y⟩ : ApiLeak)])] := by
  refine spec_of Try.func43 rfl rfl fun w0 f0 _ => ?_
  (repeat' (first | refine s_move ?_ | (refine k_C ?_; refine s_region ?_) | (refine k_load ?_; refine s_ldB rfl rfl ?_) | (refine k_fld ?_; refine s_fldB rfl ?_) | refine s_nilck rfl ?_))
  refine s_bld (⟨k, x, y⟩ : ApiLeak) (by kernel_rfl) ?_
  (repeat' (first | (refine k_fld ?_; refine s_fldB rfl ?_) | refine s_nilck rfl ?_ | (refine s_app1 _ (fun _ => rfl) rfl om ?_; intro v A c)))
  obtain ⟨A1, rfl⟩ : ∃ q, q = A := ⟨_, rfl⟩
  obtain ⟨c1, rfl⟩ : ∃ q, q = c := ⟨_, rfl⟩
  refine s_stB (⟨p, fs, (⟨r.fVal, r.fTrap, (⟨A1, c1, r.fLeaks.xs ++ [(⟨k, x, y⟩ : ApiLeak)]⟩ : Sl ApiLeak), r.fSteps, r.fDeep, r.fMem⟩ : SimResult), fin⟩ : SimMachine) rfl rfl (by simp only [Enc.enc, List.length_append]; rfl) (by decide) ?_
  (repeat' (first | refine s_nil ?_))
  exact e_done0N rfl _ ((PSub.take [0, 0] rfl).trans (PSub.eq (by simp only [List.length_append]; rfl))) ⟨A1, c1, rfl⟩
theorem trap_spec (b : Nat) (p : SsaProg) (fs : Sl SimFrame) (r : SimResult) (fin : Bool) (t : Int) :
    Spec Try.prog 42 [.pointer (some ⟨b, 0, none⟩), .int .i64 t] [var 70 b (⟨p, fs, r, fin⟩ : SimMachine)] (fun _ _ => True)
      fun v L' => L' = [var 70 b (⟨p, fs, ⟨r.fVal, t, r.fLeaks, r.fSteps, r.fDeep, r.fMem⟩, true⟩ : SimMachine)] := by
  refine spec_of Try.func42 rfl rfl fun w0 f0 _ => ?_
  (repeat' (first | refine s_move ?_ | (refine k_C ?_; refine s_region ?_) | (refine k_fld ?_; refine s_fldB rfl ?_) | refine s_nilck rfl ?_))
  refine s_stB (⟨p, fs, ⟨r.fVal, t, r.fLeaks, r.fSteps, r.fDeep, r.fMem⟩, fin⟩ : SimMachine) rfl rfl (by rfl) (by decide) ?_
  (repeat' (first | (refine k_fld ?_; refine s_fldB rfl ?_) | refine s_nilck rfl ?_))
  refine s_stB (⟨p, fs, ⟨r.fVal, t, r.fLeaks, r.fSteps, r.fDeep, r.fMem⟩, true⟩ : SimMachine) rfl rfl (by rfl) (by decide) ?_
  (repeat' (first | refine s_nil ?_))
  exact e_done0N rfl _ PSub.refl rfl
set_option maxHeartbeats 2000000 in
theorem values_spec (Af : Option Addr) (cf : Nat) (frs : List SimFrame) (j : Nat) (hj : j < frs.length) (U mi : Nat → Nat) (n : Nat) (F : Nat → Int → Option Int) (hjn : j < n) (hb : (nth frs j).fVals.b = some (mi j)) (xs : Sl Int) (hx : xs.xs.length ≤ 1000) :
    Spec Try.prog 44 [pt Af (j * 5), .slice xs.A xs.xs.length xs.c] [own 90 Af frs.length cf frs, bagG EW 3 U n mi F] (fun ok w => RdD ok w xs)
      fun r L' => ∃ A' c', r = .slice A' xs.xs.length c' ∧ L' = [own 2 A' xs.xs.length c' (xs.xs.map (getV (F j))), own 90 Af frs.length cf frs, bagG EW 3 U n mi F] := by
  refine spec_of Try.func44 rfl rfl fun w0 f0 hR => ?_
  (repeat' (first | refine s_move ?_ | refine s_assign ?_ | refine s_nil ?_ | (refine k_C ?_; first | refine s_seq ?_ | refine s_region ?_ | refine s_block ?_) | (refine k_E ?_; refine e_seq ?_) | (refine k_call ?_; refine s_len rfl ?_)))
  refine s_loop (σ := Nat × Option Addr × Nat × List Int) (fun q => [(0, pt Af (j * 5)), (8, .slice xs.A xs.xs.length xs.c), (9, .int .i64 xs.xs.length), (10, .int .i64 (q.1 : Nat)), (5, .slice q.2.1 q.2.2.2.length q.2.2.1)]) (fun q => [own 2 q.2.1 q.2.2.2.length q.2.2.1 q.2.2.2, own 90 Af frs.length cf frs, bagG EW 3 U n mi F])
    (fun q => q.1 ≤ xs.xs.length ∧ q.2.2.2 = (xs.xs.take q.1).map (getV (F j))) (fun q => xs.xs.length - q.1) (0, none, 0, []) (by repeat (first | exact trivial | refine ⟨rfl, ?_⟩)) ⟨Nat.zero_le _, rfl⟩ (PSub.nilOwn (α := Int) 2) ?_
  rintro g ⟨k, A1, c1, ys⟩ ⟨hk, hy⟩
  dsimp only at hk hy ⊢
  (repeat' (first | refine s_nil ?_ | (refine k_C ?_; first | refine s_seq ?_ | refine s_region ?_) | (refine k_E ?_; refine e_seq ?_) | (refine k_bin ?_; refine s_lss rfl rfl ?_)))
  (first | (refine k_C ?_; (refine s_ifd rfl ?_ ?_ <;> intro hc <;> try (exfalso; omega))))
  · have hkl : k < xs.xs.length := by omega
    have hyl : ys.length = k := by rw [hy, List.length_map, List.length_take]; omega
    have ew_z : ∀ o : Option Int, o.getD EW.zero = o.getD 0 := fun _ => rfl
    (repeat' (first | refine s_move ?_ | refine s_assign ?_ | refine s_nil ?_ | (refine k_C ?_; first | refine s_seq ?_ | refine s_region ?_ | refine s_skip ?_ | refine s_block ?_) | (refine k_E ?_; refine e_seq ?_) | (refine k_load ?_; first | refine s_ldF rfl om rfl ?_ | refine s_ldS rfl rfl om rfl ?_) | (refine k_fld ?_; refine s_fld rfl ?_) | (refine k_idx ?_; refine s_idxS rfl rfl om ?_) | refine s_nilck rfl ?_))
    refine s_lookG (k := n) 2 rfl hjn hb rfl rfl ?_
    (repeat' (first | refine s_move ?_ | refine s_assign ?_ | refine s_nil ?_ | (refine k_C ?_; refine s_region ?_) | (refine k_E ?_; first | refine e_seq ?_ | refine e_bk ?_) | (refine k_bin ?_; refine s_add1 rfl rfl om ?_) | (refine s_app1 _ (fun _ => rfl) rfl om ?_; intro v A c)))
    obtain ⟨A2, rfl⟩ : ∃ q, q = A := ⟨_, rfl⟩
    obtain ⟨c2, rfl⟩ : ∃ q, q = c := ⟨_, rfl⟩
    rw [show ys.length + 1 = (ys ++ [getV (F j) (nth xs.xs k)]).length by rw [List.length_append]; rfl]
    exact e_lp (k + 1, A2, c2, ys ++ [getV (F j) (nth xs.xs k)]) (by repeat (first | exact trivial | refine ⟨rfl, ?_⟩)) ⟨by show k + 1 ≤ _; omega, by show ys ++ [_] = (xs.xs.take (k + 1)).map _; rw [← takeN hkl, List.map_append, hy]; rfl⟩ (by show _ - _ < _ - _; omega) (PSub.take [0, 0, 0] rfl)
  have hkE : k = xs.xs.length := by omega
  subst hkE
  rw [List.take_length] at hy
  subst hy
  (repeat' (first | refine s_move ?_ | refine s_assign ?_ | refine s_nil ?_ | (refine k_C ?_; first | refine s_seq ?_ | refine s_region ?_ | refine s_exit ?_ | refine s_ret ?_) | (refine k_E ?_; first | refine e_seq ?_ | refine e_seq_exit ?_ | refine e_bk_exit ?_ | refine e_lp_exit ?_)))
  exact e_done rfl rfl [own 2 A1 xs.xs.length c1 (xs.xs.map (getV (F j))), own 90 Af frs.length cf frs, bagG EW 3 U n mi F] (PSub.eq (by rw [List.length_map])) ⟨A1, c1, by rw [List.length_map]; rfl, rfl⟩
instance : InT Try.prog 2 .i64 := ⟨U_2⟩
instance : InT Try.prog 3 .i64 := ⟨U_3⟩
instance : InT Try.prog 105 .u64 := ⟨U_105⟩
theorem u64_neg {i : Int} (h0 : -9223372036854775808 ≤ i) (h1 : i < 0) : IntKind.u64.wrap i = i + 18446744073709551616 := by
  simp only [IntKind.wrap, IntKind.bits, IntKind.signed]
  simp
  omega
/-- A word's place; none, and the run is at an end, where the index isn't within the array. -/
theorem word_spec (b : Nat) (p : SsaProg) (fs : Sl SimFrame) (r : SimResult) (fin : Bool) (a : Nat) (ha : a < r.fMem.xs.length) (i : Int) (hi : wfi i) (hl : (nth r.fMem.xs a).xs.length ≤ 4611686018427387904) :
    Spec Try.prog 46 [.pointer (some ⟨b, 0, none⟩), .int .i64 (a : Nat), .int .i64 i] [var 70 b (⟨p, fs, r, fin⟩ : SimMachine), own 45 r.fMem.A r.fMem.xs.length r.fMem.c r.fMem.xs, rws 2 r.fMem.xs] (fun _ _ => True)
      fun v L' => if 0 ≤ i ∧ i < (nth r.fMem.xs a).xs.length then v = pt (nth r.fMem.xs a).A (i.toNat * 1) ∧ L' = [var 70 b (⟨p, fs, r, fin⟩ : SimMachine), own 45 r.fMem.A r.fMem.xs.length r.fMem.c r.fMem.xs, rws 2 r.fMem.xs]
        else v = .pointer none ∧ L' = [var 70 b (⟨p, fs, ⟨r.fVal, 4, r.fLeaks, r.fSteps, r.fDeep, r.fMem⟩, true⟩ : SimMachine), own 45 r.fMem.A r.fMem.xs.length r.fMem.c r.fMem.xs, rws 2 r.fMem.xs] := by
  refine spec_of Try.func46 rfl rfl fun w0 f0 _ => ?_
  obtain ⟨hi0, hi1⟩ := hi
  by_cases h : 0 ≤ i ∧ i < (nth r.fMem.xs a).xs.length
  · obtain ⟨h1, h2⟩ := h
    (repeat' (first | refine s_move ?_ | refine s_assign ?_ | refine s_nil ?_ | (refine k_C ?_; first | refine s_seq ?_ | refine s_region ?_ | refine s_skip ?_ | refine s_ret ?_ | (refine s_ifd rfl ?_ ?_ <;> intro hc <;> try (exfalso; omega))) | (refine k_E ?_; refine e_seq ?_) | (refine k_load ?_; first | refine s_ldB rfl rfl ?_ | refine s_ld rfl om rfl ?_) | (refine k_bin ?_; refine s_geq rfl rfl ?_) | (refine k_fld ?_; refine s_fldB rfl ?_) | (refine k_idx ?_; first | refine s_idx rfl rfl om ?_ | refine s_idxRI rfl rfl om om ?_) | (refine k_call ?_; refine s_len rfl ?_) | refine s_convU rfl om ?_ | refine s_convUI rfl om om ?_ | refine s_nilck rfl ?_))
    exact e_done rfl rfl _ PSub.refl (by rw [if_pos ⟨h1, h2⟩]; exact ⟨rfl, rfl⟩)
  by_cases h0 : 0 ≤ i
  · have h2 : ¬ i < (nth r.fMem.xs a).xs.length := fun h2 => h ⟨h0, h2⟩
    (repeat' (first | refine s_move ?_ | refine s_assign ?_ | refine s_nil ?_ | (refine k_C ?_; first | refine s_seq ?_ | refine s_region ?_ | (refine s_ifd rfl ?_ ?_ <;> intro hc <;> try (exfalso; omega))) | (refine k_E ?_; refine e_seq ?_) | (refine k_load ?_; first | refine s_ldB rfl rfl ?_ | refine s_ld rfl om rfl ?_) | (refine k_bin ?_; refine s_geq rfl rfl ?_) | (refine k_fld ?_; refine s_fldB rfl ?_) | (refine k_idx ?_; refine s_idx rfl rfl om ?_) | (refine k_call ?_; refine s_len rfl ?_) | refine s_convU rfl om ?_ | refine s_convUI rfl om om ?_ | refine s_nilck rfl ?_))
    refine s_call (L2 := [own 45 r.fMem.A r.fMem.xs.length r.fMem.c r.fMem.xs, rws 2 r.fMem.xs]) [0] (trap_spec b p fs r fin 4) rfl rfl (fun _ _ _ => trivial) ?_
    rintro v L' rfl
    (repeat' (first | refine s_assign ?_ | refine s_nil ?_ | (refine k_C ?_; first | refine s_seq ?_ | refine s_region ?_ | refine s_ret ?_) | (refine k_E ?_; first | refine e_seq ?_ | refine e_seq_ret ?_)))
    exact e_done rfl rfl _ PSub.refl (by rw [if_neg h]; exact ⟨rfl, rfl⟩)
  · (repeat' (first | refine s_move ?_ | refine s_assign ?_ | refine s_nil ?_ | (refine k_C ?_; first | refine s_seq ?_ | refine s_region ?_) | (refine k_E ?_; refine e_seq ?_) | (refine k_load ?_; first | refine s_ldB rfl rfl ?_ | refine s_ld rfl om rfl ?_) | (refine k_fld ?_; refine s_fldB rfl ?_) | (refine k_idx ?_; refine s_idx rfl rfl om ?_) | refine s_nilck rfl ?_))
    refine s_conv (hs := U_2) (ht := U_105) rfl ?_
    rw [u64_neg hi0 (by omega)]
    (repeat' (first | refine s_move ?_ | refine s_nil ?_ | (refine k_C ?_; first | refine s_seq ?_ | refine s_region ?_ | (refine s_ifd rfl ?_ ?_ <;> intro hc <;> try (exfalso; omega))) | (refine k_E ?_; refine e_seq ?_) | (refine k_bin ?_; refine s_geq rfl rfl ?_) | (refine k_call ?_; refine s_len rfl ?_) | refine s_convU rfl om ?_))
    refine s_call (L2 := [own 45 r.fMem.A r.fMem.xs.length r.fMem.c r.fMem.xs, rws 2 r.fMem.xs]) [0] (trap_spec b p fs r fin 4) rfl rfl (fun _ _ _ => trivial) ?_
    rintro v L' rfl
    (repeat' (first | refine s_assign ?_ | refine s_nil ?_ | (refine k_C ?_; first | refine s_seq ?_ | refine s_region ?_ | refine s_ret ?_) | (refine k_E ?_; first | refine e_seq ?_ | refine e_seq_ret ?_)))
    exact e_done rfl rfl _ PSub.refl (by rw [if_neg h]; exact ⟨rfl, rfl⟩)
end Go.Proofs.Ytoknjpmlloikhaa
