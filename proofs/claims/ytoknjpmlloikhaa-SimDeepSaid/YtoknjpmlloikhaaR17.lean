/- Layer 8: SimDeep, plainly and walked. (printed by litgen.py and a template) -/
import Derived.Test.YtoknjpmlloikhaaR15
import Derived.Test.YtoknjpmlloikhaaR16
namespace Go.Proofs.Ytoknjpmlloikhaa
set_option linter.unusedVariables false
set_option linter.unusedSimpArgs false
open Go Go.RowKit

def dp11 : SsaEdge := ⟨1, Enc.dflt⟩
def dp12 : SsaEdge := ⟨2, Enc.dflt⟩
def dp14 (b13 : Nat) : SsaEnd := ⟨2, 1, ⟨some ⟨b13, 0, none⟩, 2, [dp11, dp12]⟩, Enc.dflt⟩
def dp15 (b10 : Nat) (b13 : Nat) : SsaBlock := ⟨⟨some ⟨b10, 0, none⟩, 1, [1]⟩, Enc.dflt, (dp14 b13)⟩
def dp16 : SsaIns := ⟨1, 2, Enc.dflt, 1, Enc.dflt, Enc.dflt, Enc.dflt⟩
def dp18 (b17 : Nat) : SsaIns := ⟨2, 3, ⟨some ⟨b17, 0, none⟩, 2, [1, 2]⟩, Enc.dflt, 2, Enc.dflt, Enc.dflt⟩
def dp20 (b19 : Nat) : SsaIns := ⟨7, 4, ⟨some ⟨b19, 0, none⟩, 1, [3]⟩, Enc.dflt, Enc.dflt, Enc.dflt, Enc.dflt⟩
def dp22 (b21 : Nat) : SsaIns := ⟨2, 5, ⟨some ⟨b21, 0, none⟩, 2, [4, 2]⟩, Enc.dflt, 1, Enc.dflt, Enc.dflt⟩
def dp24 : SsaEnd := ⟨3, 5, Enc.dflt, Enc.dflt⟩
def dp25 (b23 : Nat) (b17 : Nat) (b19 : Nat) (b21 : Nat) : SsaBlock := ⟨Enc.dflt, ⟨some ⟨b23, 0, none⟩, 4, [dp16, (dp18 b17), (dp20 b19), (dp22 b21)]⟩, dp24⟩
def dp26 : SsaEnd := ⟨3, 1, Enc.dflt, Enc.dflt⟩
def dp27 : SsaBlock := ⟨Enc.dflt, Enc.dflt, dp26⟩
def dp29 (b28 : Nat) (b10 : Nat) (b13 : Nat) (b23 : Nat) (b17 : Nat) (b19 : Nat) (b21 : Nat) : SsaFunc := ⟨Enc.dflt, ⟨some ⟨b28, 0, none⟩, 3, [(dp15 b10 b13), (dp25 b23 b17 b19 b21), dp27]⟩⟩
def dp31 (n : Int) : SsaIns := ⟨1, 1, Enc.dflt, n, Enc.dflt, Enc.dflt, Enc.dflt⟩
def dp33 (b32 : Nat) : SsaIns := ⟨7, 2, ⟨some ⟨b32, 0, none⟩, 1, [1]⟩, Enc.dflt, Enc.dflt, Enc.dflt, Enc.dflt⟩
def dp35 : SsaEnd := ⟨3, 2, Enc.dflt, Enc.dflt⟩
def dp36 (b34 : Nat) (n : Int) (b32 : Nat) : SsaBlock := ⟨Enc.dflt, ⟨some ⟨b34, 0, none⟩, 2, [(dp31 n), (dp33 b32)]⟩, dp35⟩
def dp38 (b37 : Nat) (b34 : Nat) (n : Int) (b32 : Nat) : SsaFunc := ⟨Enc.dflt, ⟨some ⟨b37, 0, none⟩, 1, [(dp36 b34 n b32)]⟩⟩
def dp40 (b39 : Nat) (b28 : Nat) (b10 : Nat) (b13 : Nat) (b23 : Nat) (b17 : Nat) (b19 : Nat) (b21 : Nat) (b37 : Nat) (b34 : Nat) (n : Int) (b32 : Nat) : SsaProg := ⟨Enc.dflt, ⟨some ⟨b39, 0, none⟩, 2, [(dp29 b28 b10 b13 b23 b17 b19 b21), (dp38 b37 b34 n b32)]⟩, 1⟩
theorem dp_rd {w0 w1 : World} {f0 f1 : FP} {L1 L2 L3 : List HP} {b39 : Nat} {b28 : Nat} {b10 : Nat} {b13 : Nat} {b23 : Nat} {b17 : Nat} {b19 : Nat} {b21 : Nat} {b37 : Nat} {b34 : Nat} {n : Int} {b32 : Nat} (C : Ctx w0 f0 L1 L2 w1 f1) (hn : wfi n)
    (hL : L2 = own 63 (some ⟨b39, 0, none⟩) 2 2 ([(dp29 b28 b10 b13 b23 b17 b19 b21), (dp38 b37 b34 n b32)] : List SsaFunc) :: own 60 (some ⟨b37, 0, none⟩) 1 1 ([(dp36 b34 n b32)] : List SsaBlock) :: own 51 (some ⟨b34, 0, none⟩) 2 2 ([(dp31 n), (dp33 b32)] : List SsaIns) :: own 3 (some ⟨b32, 0, none⟩) 1 1 ([1] : List Int) :: own 60 (some ⟨b28, 0, none⟩) 3 3 ([(dp15 b10 b13), (dp25 b23 b17 b19 b21), dp27] : List SsaBlock) :: own 51 (some ⟨b23, 0, none⟩) 4 4 ([dp16, (dp18 b17), (dp20 b19), (dp22 b21)] : List SsaIns) :: own 3 (some ⟨b21, 0, none⟩) 2 2 ([4, 2] : List Int) :: own 3 (some ⟨b19, 0, none⟩) 1 1 ([3] : List Int) :: own 3 (some ⟨b17, 0, none⟩) 2 2 ([1, 2] : List Int) :: own 55 (some ⟨b13, 0, none⟩) 2 2 ([dp11, dp12] : List SsaEdge) :: own 3 (some ⟨b10, 0, none⟩) 1 1 ([1] : List Int) :: L3) : RdD (okOf w1 f1) w1 (dp40 b39 b28 b10 b13 b23 b17 b19 b21 b37 b34 n b32) := by
  subst hL
  have r10 : Dp.rd (okOf w1 f1) w1 (⟨some ⟨b10, 0, none⟩, 1, [1]⟩ : Sl Int) := C.lit (e := 3) (l := 1) (all_cons (show wfi 1 by constructor <;> decide) all_nil)
  have r11 : Dp.rd (okOf w1 f1) w1 dp11 := ⟨(show wfi 1 by constructor <;> decide), (Dp.dflt _ _)⟩
  have r12 : Dp.rd (okOf w1 f1) w1 dp12 := ⟨(show wfi 2 by constructor <;> decide), (Dp.dflt _ _)⟩
  have r13 : Dp.rd (okOf w1 f1) w1 (⟨some ⟨b13, 0, none⟩, 2, [dp11, dp12]⟩ : Sl SsaEdge) := C.lit (e := 55) (l := 2) (all_cons r11 (all_cons r12 all_nil))
  have r14 : Dp.rd (okOf w1 f1) w1 (dp14 b13) := ⟨(show wfi 2 by constructor <;> decide), (show wfi 1 by constructor <;> decide), r13, (Dp.dflt _ _)⟩
  have r15 : Dp.rd (okOf w1 f1) w1 (dp15 b10 b13) := ⟨r10, (Dp.dflt _ _), r14⟩
  have r16 : Dp.rd (okOf w1 f1) w1 dp16 := ⟨(show wfi 1 by constructor <;> decide), (show wfi 2 by constructor <;> decide), (Dp.dflt _ _), (show wfi 1 by constructor <;> decide), (Dp.dflt _ _), (Dp.dflt _ _), (Dp.dflt _ _)⟩
  have r17 : Dp.rd (okOf w1 f1) w1 (⟨some ⟨b17, 0, none⟩, 2, [1, 2]⟩ : Sl Int) := C.lit (e := 3) (l := 2) (all_cons (show wfi 1 by constructor <;> decide) (all_cons (show wfi 2 by constructor <;> decide) all_nil))
  have r18 : Dp.rd (okOf w1 f1) w1 (dp18 b17) := ⟨(show wfi 2 by constructor <;> decide), (show wfi 3 by constructor <;> decide), r17, (Dp.dflt _ _), (show wfi 2 by constructor <;> decide), (Dp.dflt _ _), (Dp.dflt _ _)⟩
  have r19 : Dp.rd (okOf w1 f1) w1 (⟨some ⟨b19, 0, none⟩, 1, [3]⟩ : Sl Int) := C.lit (e := 3) (l := 1) (all_cons (show wfi 3 by constructor <;> decide) all_nil)
  have r20 : Dp.rd (okOf w1 f1) w1 (dp20 b19) := ⟨(show wfi 7 by constructor <;> decide), (show wfi 4 by constructor <;> decide), r19, (Dp.dflt _ _), (Dp.dflt _ _), (Dp.dflt _ _), (Dp.dflt _ _)⟩
  have r21 : Dp.rd (okOf w1 f1) w1 (⟨some ⟨b21, 0, none⟩, 2, [4, 2]⟩ : Sl Int) := C.lit (e := 3) (l := 2) (all_cons (show wfi 4 by constructor <;> decide) (all_cons (show wfi 2 by constructor <;> decide) all_nil))
  have r22 : Dp.rd (okOf w1 f1) w1 (dp22 b21) := ⟨(show wfi 2 by constructor <;> decide), (show wfi 5 by constructor <;> decide), r21, (Dp.dflt _ _), (show wfi 1 by constructor <;> decide), (Dp.dflt _ _), (Dp.dflt _ _)⟩
  have r23 : Dp.rd (okOf w1 f1) w1 (⟨some ⟨b23, 0, none⟩, 4, [dp16, (dp18 b17), (dp20 b19), (dp22 b21)]⟩ : Sl SsaIns) := C.lit (e := 51) (l := 4) (all_cons r16 (all_cons r18 (all_cons r20 (all_cons r22 all_nil))))
  have r24 : Dp.rd (okOf w1 f1) w1 dp24 := ⟨(show wfi 3 by constructor <;> decide), (show wfi 5 by constructor <;> decide), (Dp.dflt _ _), (Dp.dflt _ _)⟩
  have r25 : Dp.rd (okOf w1 f1) w1 (dp25 b23 b17 b19 b21) := ⟨(Dp.dflt _ _), r23, r24⟩
  have r26 : Dp.rd (okOf w1 f1) w1 dp26 := ⟨(show wfi 3 by constructor <;> decide), (show wfi 1 by constructor <;> decide), (Dp.dflt _ _), (Dp.dflt _ _)⟩
  have r27 : Dp.rd (okOf w1 f1) w1 dp27 := ⟨(Dp.dflt _ _), (Dp.dflt _ _), r26⟩
  have r28 : Dp.rd (okOf w1 f1) w1 (⟨some ⟨b28, 0, none⟩, 3, [(dp15 b10 b13), (dp25 b23 b17 b19 b21), dp27]⟩ : Sl SsaBlock) := C.lit (e := 60) (l := 3) (all_cons r15 (all_cons r25 (all_cons r27 all_nil)))
  have r29 : Dp.rd (okOf w1 f1) w1 (dp29 b28 b10 b13 b23 b17 b19 b21) := ⟨trivial, r28⟩
  have r31 : Dp.rd (okOf w1 f1) w1 (dp31 n) := ⟨(show wfi 1 by constructor <;> decide), (show wfi 1 by constructor <;> decide), (Dp.dflt _ _), hn, (Dp.dflt _ _), (Dp.dflt _ _), (Dp.dflt _ _)⟩
  have r32 : Dp.rd (okOf w1 f1) w1 (⟨some ⟨b32, 0, none⟩, 1, [1]⟩ : Sl Int) := C.lit (e := 3) (l := 1) (all_cons (show wfi 1 by constructor <;> decide) all_nil)
  have r33 : Dp.rd (okOf w1 f1) w1 (dp33 b32) := ⟨(show wfi 7 by constructor <;> decide), (show wfi 2 by constructor <;> decide), r32, (Dp.dflt _ _), (Dp.dflt _ _), (Dp.dflt _ _), (Dp.dflt _ _)⟩
  have r34 : Dp.rd (okOf w1 f1) w1 (⟨some ⟨b34, 0, none⟩, 2, [(dp31 n), (dp33 b32)]⟩ : Sl SsaIns) := C.lit (e := 51) (l := 2) (all_cons r31 (all_cons r33 all_nil))
  have r35 : Dp.rd (okOf w1 f1) w1 dp35 := ⟨(show wfi 3 by constructor <;> decide), (show wfi 2 by constructor <;> decide), (Dp.dflt _ _), (Dp.dflt _ _)⟩
  have r36 : Dp.rd (okOf w1 f1) w1 (dp36 b34 n b32) := ⟨(Dp.dflt _ _), r34, r35⟩
  have r37 : Dp.rd (okOf w1 f1) w1 (⟨some ⟨b37, 0, none⟩, 1, [(dp36 b34 n b32)]⟩ : Sl SsaBlock) := C.lit (e := 60) (l := 1) (all_cons r36 all_nil)
  have r38 : Dp.rd (okOf w1 f1) w1 (dp38 b37 b34 n b32) := ⟨trivial, r37⟩
  have r39 : Dp.rd (okOf w1 f1) w1 (⟨some ⟨b39, 0, none⟩, 2, [(dp29 b28 b10 b13 b23 b17 b19 b21), (dp38 b37 b34 n b32)]⟩ : Sl SsaFunc) := C.lit (e := 63) (l := 2) (all_cons r29 (all_cons r38 all_nil))
  have r40 : Dp.rd (okOf w1 f1) w1 (dp40 b39 b28 b10 b13 b23 b17 b19 b21 b37 b34 n b32) := ⟨(Dp.dflt _ _), r39, (show wfi 1 by constructor <;> decide)⟩
  exact ⟨r40⟩
def dpS (fs : List Frm) (l : List ApiLeak) (s dp : Nat) : Mch := ⟨fs, 0, 0, l, s, dp, [], false⟩
section
variable {n : Int} {b39 b28 b10 b13 b23 b17 b19 b21 b37 b34 b32 : Nat}
theorem dp_few : FewPr (dp40 b39 b28 b10 b13 b23 b17 b19 b21 b37 b34 n b32) := fewB_pr (by kernel_rfl)
theorem dp_check : checkB (dp40 b39 b28 b10 b13 b23 b17 b19 b21 b37 b34 n b32) = true := by kernel_rfl
theorem dp_br {base : List Frm} {v : Int → Option Int} {d : Int} {l : List ApiLeak} {s dp : Nat} (h : getV v 1 ≠ 0) : stepM (dp40 b39 b28 b10 b13 b23 b17 b19 b21 b37 b34 n b32) (dpS (base ++ [⟨0, 0, 0, v, d⟩]) l s dp) = some (dpS (base ++ [⟨0, 1, 0, v, d⟩]) (l ++ [⟨1, 1, 0⟩]) s dp) := by
  rw [step_end (base := base) (f := ⟨0, 0, 0, v, d⟩) rfl rfl]
  show some (wayM (dp40 b39 b28 b10 b13 b23 b17 b19 b21 b37 b34 n b32) ((dpS (base ++ [⟨0, 0, 0, v, d⟩]) l s dp).leak ⟨1, if getV v 1 ≠ 0 then 1 else 0, 0⟩) ⟨0, 0, 0, v, d⟩ (dp14 b13) (1 - if getV v 1 ≠ 0 then 1 else 0 : Int).toNat) = _
  rw [if_pos h, wayM_app (base := base) rfl]
  rfl
theorem dp_br0 {base : List Frm} {v : Int → Option Int} {d : Int} {l : List ApiLeak} {s dp : Nat} (h : getV v 1 = 0) : stepM (dp40 b39 b28 b10 b13 b23 b17 b19 b21 b37 b34 n b32) (dpS (base ++ [⟨0, 0, 0, v, d⟩]) l s dp) = some (dpS (base ++ [⟨0, 2, 0, v, d⟩]) (l ++ [⟨1, 0, 0⟩]) s dp) := by
  rw [step_end (base := base) (f := ⟨0, 0, 0, v, d⟩) rfl rfl]
  show some (wayM (dp40 b39 b28 b10 b13 b23 b17 b19 b21 b37 b34 n b32) ((dpS (base ++ [⟨0, 0, 0, v, d⟩]) l s dp).leak ⟨1, if getV v 1 ≠ 0 then 1 else 0, 0⟩) ⟨0, 0, 0, v, d⟩ (dp14 b13) (1 - if getV v 1 ≠ 0 then 1 else 0 : Int).toNat) = _
  rw [if_neg (by rw [h]; decide), wayM_app (base := base) rfl]
  rfl
theorem dp_c {base : List Frm} {v : Int → Option Int} {d : Int} {l : List ApiLeak} {s dp : Nat} : stepM (dp40 b39 b28 b10 b13 b23 b17 b19 b21 b37 b34 n b32) (dpS (base ++ [⟨0, 1, 0, v, d⟩]) l s dp) = some (dpS (base ++ [⟨0, 1, 1, putF v 2 1, d⟩]) l s dp) := by
  rw [step_ins (base := base) (f := ⟨0, 1, 0, v, d⟩) rfl (by show ¬ (0 = 4); decide)]
  show some (Mch.top _ _) = _
  rw [top_app (base := base) rfl]
  rfl
theorem dp_s {base : List Frm} {v : Int → Option Int} {d : Int} {l : List ApiLeak} {s dp : Nat} : stepM (dp40 b39 b28 b10 b13 b23 b17 b19 b21 b37 b34 n b32) (dpS (base ++ [⟨0, 1, 1, v, d⟩]) l s dp) = some (dpS (base ++ [⟨0, 1, 2, putF v 3 (IntKind.i64.wrap (getV v 1 - getV v 2)), d⟩]) l s dp) := by
  rw [step_ins (base := base) (f := ⟨0, 1, 1, v, d⟩) rfl (by show ¬ (1 = 4); decide)]
  show some (Mch.top _ _) = _
  rw [top_app (base := base) rfl]
  rfl
theorem dp_a {base : List Frm} {v : Int → Option Int} {d : Int} {l : List ApiLeak} {s dp : Nat} : stepM (dp40 b39 b28 b10 b13 b23 b17 b19 b21 b37 b34 n b32) (dpS (base ++ [⟨0, 1, 3, v, d⟩]) l s dp) = some (dpS (base ++ [⟨0, 1, 4, putF v 5 (IntKind.i64.wrap (getV v 4 + getV v 2)), d⟩]) l s dp) := by
  rw [step_ins (base := base) (f := ⟨0, 1, 3, v, d⟩) rfl (by show ¬ (3 = 4); decide)]
  show some (Mch.top _ _) = _
  rw [top_app (base := base) rfl]
  rfl
theorem dp_call {base : List Frm} {v : Int → Option Int} {d : Int} {l : List ApiLeak} {s dp : Nat} (hl : base.length + 1 < 2000) : stepM (dp40 b39 b28 b10 b13 b23 b17 b19 b21 b37 b34 n b32) (dpS (base ++ [⟨0, 1, 2, v, d⟩]) l s dp) = some (dpS (base ++ [⟨0, 1, 3, v, d⟩] ++ [⟨0, 0, 0, putF (fun _ => none) 1 (getV v 3), 4⟩]) l s (max dp (base.length + 2))) := by
  rw [step_ins (base := base) (f := ⟨0, 1, 2, v, d⟩) rfl (by show ¬ (2 = 4); decide)]
  show enterM _ _ 0 [getV v 3] 4 = _
  rw [enterM_app (base := base) (f := ⟨0, 1, 3, v, d⟩) rfl hl]
  rfl
theorem dp_callN {base : List Frm} {v : Int → Option Int} {d : Int} {l : List ApiLeak} {s dp : Nat} (hl : 2000 ≤ base.length + 1) : stepM (dp40 b39 b28 b10 b13 b23 b17 b19 b21 b37 b34 n b32) (dpS (base ++ [⟨0, 1, 2, v, d⟩]) l s dp) = none := by
  rw [step_ins (base := base) (f := ⟨0, 1, 2, v, d⟩) rfl (by show ¬ (2 = 4); decide)]
  show enterM _ _ 0 [getV v 3] 4 = _
  rw [enterM_full (base := base) (f := ⟨0, 1, 3, v, d⟩) rfl hl]
theorem dp_r1 {base : List Frm} {g : Frm} {v : Int → Option Int} {d : Int} {l : List ApiLeak} {s dp : Nat} : stepM (dp40 b39 b28 b10 b13 b23 b17 b19 b21 b37 b34 n b32) (dpS (base ++ [g] ++ [⟨0, 1, 4, v, d⟩]) l s dp) = some (dpS (base ++ [{ g with vals := putF g.vals d (getV v 5) }]) l s dp) := by
  rw [step_end (base := base ++ [g]) (f := ⟨0, 1, 4, v, d⟩) rfl rfl]
  show some (leaveM _ _ (getV v 5)) = _
  rw [leaveM_app (base := base) (g := g) rfl]
  rfl
theorem dp_r2 {base : List Frm} {g : Frm} {v : Int → Option Int} {d : Int} {l : List ApiLeak} {s dp : Nat} : stepM (dp40 b39 b28 b10 b13 b23 b17 b19 b21 b37 b34 n b32) (dpS (base ++ [g] ++ [⟨0, 2, 0, v, d⟩]) l s dp) = some (dpS (base ++ [{ g with vals := putF g.vals d (getV v 1) }]) l s dp) := by
  rw [step_end (base := base ++ [g]) (f := ⟨0, 2, 0, v, d⟩) rfl rfl]
  show some (leaveM _ _ (getV v 1)) = _
  rw [leaveM_app (base := base) (g := g) rfl]
  rfl
theorem dp_in {k : Nat} (hk : k ≤ 5000) {v : Int → Option Int} (h1 : getV v 1 = ((k + 1 : Nat) : Int)) : getV (putF (putF v 2 1) 3 (IntKind.i64.wrap (getV (putF v 2 1) 1 - getV (putF v 2 1) 2))) 3 = (k : Int) := by
  rw [getV_put, if_pos rfl, getV_put, if_neg (by decide), getV_put, if_pos rfl, h1, wrap_small (by omega) (by omega)]
  omega
theorem dp_go : ∀ (k : Nat) (B : List Frm) (g : Frm) (v : Int → Option Int) (d : Int) (l : List ApiLeak) (s dp : Nat), getV v 1 = (k : Int) → k ≤ 5000 → B.length + 2 + k ≤ 2000 → B.length + 2 ≤ dp →
    ∃ j l2, goM (dp40 b39 b28 b10 b13 b23 b17 b19 b21 b37 b34 n b32) j (dpS (B ++ [g] ++ [⟨0, 0, 0, v, d⟩]) l s dp) = some (dpS (B ++ [{ g with vals := putF g.vals d (k : Int) }]) l2 (s + j) (max dp (B.length + 2 + k))) ∧ j ≤ 7 * k + 2
  | 0, B, g, v, d, l, s, dp, h1, hk, hl, hd => by
    refine ⟨2, l ++ [⟨1, 0, 0⟩], ?_, Nat.le_refl _⟩
    refine goM_step' rfl (dp_br0 (base := B ++ [g]) h1) (goM_step' rfl dp_r2 ?_)
    rw [h1, Nat.max_eq_left (by omega)]
    rfl
  | k + 1, B, g, v, d, l, s, dp, h1, hk, hl, hd => by
    obtain ⟨v3, hv3⟩ : ∃ q, q = putF (putF v 2 1) 3 (IntKind.i64.wrap (getV (putF v 2 1) 1 - getV (putF v 2 1) 2)) := ⟨_, rfl⟩
    have g3 : getV v3 3 = (k : Int) := by rw [hv3]; exact dp_in (by omega) h1
    obtain ⟨j, l2, e1, e2⟩ := dp_go k (B ++ [g]) ⟨0, 1, 3, v3, d⟩ (putF (fun _ => none) 1 (getV v3 3)) 4 (l ++ [⟨1, 1, 0⟩]) (s + 1 + 1 + 1 + 1) (max dp ((B ++ [g]).length + 2)) (by rw [getV_put, if_pos rfl]; exact g3) (by omega) (by rw [app_len]; omega) (Nat.le_max_right _ _)
    obtain ⟨v4, hv4⟩ : ∃ q, q = putF v3 4 (k : Int) := ⟨_, rfl⟩
    have e3 : IntKind.i64.wrap (getV v4 4 + getV v4 2) = ((k + 1 : Nat) : Int) := by
      have a1 : getV v4 4 = (k : Int) := by rw [hv4, getV_put, if_pos rfl]
      have a2 : getV v4 2 = 1 := by rw [hv4, getV_put, if_neg (by decide), hv3, getV_put, if_neg (by decide), getV_put, if_pos rfl]
      rw [a1, a2, wrap_small (by omega) (by omega)]; omega
    refine ⟨1 + (1 + (1 + (1 + (j + 2)))), l2, ?_, by omega⟩
    rw [show 1 + (1 + (1 + (1 + (j + 2)))) = j + 2 + 1 + 1 + 1 + 1 by omega]
    refine goM_step' (m1 := dpS (B ++ [g] ++ [⟨0, 1, 0, v, d⟩]) (l ++ [⟨1, 1, 0⟩]) (s + 1) dp) rfl (dp_br (base := B ++ [g]) (by rw [h1]; omega)) (goM_step' (m1 := dpS (B ++ [g] ++ [⟨0, 1, 1, putF v 2 1, d⟩]) (l ++ [⟨1, 1, 0⟩]) (s + 1 + 1) dp) rfl dp_c (goM_step' (m1 := dpS (B ++ [g] ++ [⟨0, 1, 2, v3, d⟩]) (l ++ [⟨1, 1, 0⟩]) (s + 1 + 1 + 1) dp) rfl (by rw [hv3]; exact dp_s) (goM_step' (m1 := dpS (B ++ [g] ++ [⟨0, 1, 3, v3, d⟩] ++ [⟨0, 0, 0, putF (fun _ => none) 1 (getV v3 3), 4⟩]) (l ++ [⟨1, 1, 0⟩]) (s + 1 + 1 + 1 + 1) (max dp ((B ++ [g]).length + 2))) rfl (dp_call (base := B ++ [g]) (by rw [app_len]; omega)) (goM_add e1 ?_))))
    refine goM_step' (m1 := dpS (B ++ [g] ++ [⟨0, 1, 4, putF v4 5 ((k + 1 : Nat) : Int), d⟩]) l2 (s + 1 + 1 + 1 + 1 + j + 1) (max (max dp ((B ++ [g]).length + 2)) ((B ++ [g]).length + 2 + k))) rfl (by rw [← e3, hv4]; exact dp_a) (goM_step' (m1 := dpS (B ++ [{ g with vals := putF g.vals d ((k + 1 : Nat) : Int) }]) l2 (s + 1 + 1 + 1 + 1 + j + 1 + 1) (max (max dp ((B ++ [g]).length + 2)) ((B ++ [g]).length + 2 + k))) rfl (by have := dp_r1 (n := n) (b39 := b39) (b28 := b28) (b10 := b10) (b13 := b13) (b23 := b23) (b17 := b17) (b19 := b19) (b21 := b21) (b37 := b37) (b34 := b34) (b32 := b32) (base := B) (g := g) (v := putF v4 5 ((k + 1 : Nat) : Int)) (d := d) (l := l2) (s := s + 1 + 1 + 1 + 1 + j + 1 + 1) (dp := max (max dp ((B ++ [g]).length + 2)) ((B ++ [g]).length + 2 + k)); rw [getV_put, if_pos rfl] at this; exact this) ?_)
    rw [app_len]
    show some _ = some _
    congr 2
    · omega
    · omega
theorem dp_no : ∀ (k : Nat) (B : List Frm) (g : Frm) (v : Int → Option Int) (d : Int) (l : List ApiLeak) (s dp : Nat), getV v 1 = (k : Int) → k ≤ 5000 → 2000 < B.length + 2 + k → B.length + 2 ≤ 2000 →
    ∃ j m, goM (dp40 b39 b28 b10 b13 b23 b17 b19 b21 b37 b34 n b32) j (dpS (B ++ [g] ++ [⟨0, 0, 0, v, d⟩]) l s dp) = some m ∧ m.fin = false ∧ stepM (dp40 b39 b28 b10 b13 b23 b17 b19 b21 b37 b34 n b32) { m with steps := m.steps + 1 } = none
  | 0, B, g, v, d, l, s, dp, h1, hk, hl, hd => by omega
  | k + 1, B, g, v, d, l, s, dp, h1, hk, hl, hd => by
    obtain ⟨v3, hv3⟩ : ∃ q, q = putF (putF v 2 1) 3 (IntKind.i64.wrap (getV (putF v 2 1) 1 - getV (putF v 2 1) 2)) := ⟨_, rfl⟩
    have g3 : getV v3 3 = (k : Int) := by rw [hv3]; exact dp_in (by omega) h1
    by_cases hfull : 2000 ≤ (B ++ [g]).length + 1
    · refine ⟨3, dpS (B ++ [g] ++ [⟨0, 1, 2, v3, d⟩]) (l ++ [⟨1, 1, 0⟩]) (s + 1 + 1 + 1) dp, ?_, rfl, dp_callN hfull⟩
      exact goM_step' (m1 := dpS (B ++ [g] ++ [⟨0, 1, 0, v, d⟩]) (l ++ [⟨1, 1, 0⟩]) (s + 1) dp) rfl (dp_br (base := B ++ [g]) (by rw [h1]; omega)) (goM_step' (m1 := dpS (B ++ [g] ++ [⟨0, 1, 1, putF v 2 1, d⟩]) (l ++ [⟨1, 1, 0⟩]) (s + 1 + 1) dp) rfl dp_c (goM_step' (m1 := dpS (B ++ [g] ++ [⟨0, 1, 2, v3, d⟩]) (l ++ [⟨1, 1, 0⟩]) (s + 1 + 1 + 1) dp) rfl (by rw [hv3]; exact dp_s) (rfl)))
    · obtain ⟨j, m, e1, e2, e3⟩ := dp_no k (B ++ [g]) ⟨0, 1, 3, v3, d⟩ (putF (fun _ => none) 1 (getV v3 3)) 4 (l ++ [⟨1, 1, 0⟩]) (s + 1 + 1 + 1 + 1) (max dp ((B ++ [g]).length + 2)) (by rw [getV_put, if_pos rfl]; exact g3) (by omega) (by rw [app_len]; omega) (by rw [app_len] at hfull ⊢; omega)
      exact ⟨j + 1 + 1 + 1 + 1, m, goM_step' (m1 := dpS (B ++ [g] ++ [⟨0, 1, 0, v, d⟩]) (l ++ [⟨1, 1, 0⟩]) (s + 1) dp) rfl (dp_br (base := B ++ [g]) (by rw [h1]; omega)) (goM_step' (m1 := dpS (B ++ [g] ++ [⟨0, 1, 1, putF v 2 1, d⟩]) (l ++ [⟨1, 1, 0⟩]) (s + 1 + 1) dp) rfl dp_c (goM_step' (m1 := dpS (B ++ [g] ++ [⟨0, 1, 2, v3, d⟩]) (l ++ [⟨1, 1, 0⟩]) (s + 1 + 1 + 1) dp) rfl (by rw [hv3]; exact dp_s) (goM_step' (m1 := dpS (B ++ [g] ++ [⟨0, 1, 3, v3, d⟩] ++ [⟨0, 0, 0, putF (fun _ => none) 1 (getV v3 3), 4⟩]) (l ++ [⟨1, 1, 0⟩]) (s + 1 + 1 + 1 + 1) (max dp ((B ++ [g]).length + 2))) rfl (dp_call (base := B ++ [g]) (by omega)) (e1)))), e2, e3⟩
theorem dp_m1 {v : Int → Option Int} {l : List ApiLeak} {s dp : Nat} : stepM (dp40 b39 b28 b10 b13 b23 b17 b19 b21 b37 b34 n b32) (dpS [⟨1, 0, 0, v, 0⟩] l s dp) = some (dpS [⟨1, 0, 1, putF v 1 n, 0⟩] l s dp) := rfl
theorem dp_m2 {v : Int → Option Int} {l : List ApiLeak} {s dp : Nat} : stepM (dp40 b39 b28 b10 b13 b23 b17 b19 b21 b37 b34 n b32) (dpS [⟨1, 0, 1, v, 0⟩] l s dp) = some (dpS ([] ++ [⟨1, 0, 2, v, 0⟩] ++ [⟨0, 0, 0, putF (fun _ => none) 1 (getV v 1), 2⟩]) l s (max dp 2)) := rfl
theorem dp_m3 {v : Int → Option Int} {l : List ApiLeak} {s dp : Nat} : stepM (dp40 b39 b28 b10 b13 b23 b17 b19 b21 b37 b34 n b32) (dpS [⟨1, 0, 2, v, 0⟩] l s dp) = some ⟨[], getV v 2, 0, l, s, dp, [], true⟩ := rfl
theorem dp_run {k : Nat} (hn : n = (k : Int)) (hk : k + 2 ≤ 2000) : ∃ m, runOf (dp40 b39 b28 b10 b13 b23 b17 b19 b21 b37 b34 n b32) [] 1048576 = .out m ∧ m.val = (k : Int) ∧ m.deep = k + 2 := by
  obtain ⟨v, hv⟩ : ∃ q, q = putF (fun _ => none) 1 n := ⟨_, rfl⟩
  have g1 : getV v 1 = (k : Int) := by rw [hv, getV_put, if_pos rfl]; exact hn
  obtain ⟨j, l2, e1, e2⟩ := dp_go (n := n) (b39 := b39) (b28 := b28) (b10 := b10) (b13 := b13) (b23 := b23) (b17 := b17) (b19 := b19) (b21 := b21) (b37 := b37) (b34 := b34) (b32 := b32) k [] ⟨1, 0, 2, v, 0⟩ (putF (fun _ => none) 1 (getV v 1)) 2 [] 2 (max 1 2) (by rw [getV_put, if_pos rfl]; exact g1) (by omega) (by show 0 + 2 + k ≤ _; omega) (by decide)
  have h : goM (dp40 b39 b28 b10 b13 b23 b17 b19 b21 b37 b34 n b32) (j + 1 + 1 + 1) (dpS [⟨1, 0, 0, fun _ => none, 0⟩] [] 0 1) = some ⟨[], (k : Int), 0, l2, 2 + j + 1, max (max 1 2) (0 + 2 + k), [], true⟩ := by
    refine goM_step' (m1 := dpS [⟨1, 0, 1, v, 0⟩] [] 1 1) rfl (by rw [hv]; exact dp_m1) (goM_step' (m1 := dpS ([] ++ [⟨1, 0, 2, v, 0⟩] ++ [⟨0, 0, 0, putF (fun _ => none) 1 (getV v 1), 2⟩]) [] 2 (max 1 2)) rfl dp_m2 (goM_add (k := 1) e1 (goM_step' (m1 := ⟨[], getV (putF v 2 (k : Int)) 2, 0, l2, 2 + j + 1, max (max 1 2) (0 + 2 + k), [], true⟩) rfl dp_m3 ?_)))
    rw [getV_put, if_pos rfl]
    rfl
  refine ⟨_, runOf_out (k := j + 1 + 1 + 1) h rfl (by omega), rfl, ?_⟩
  show max (max 1 2) (0 + 2 + k) = k + 2
  omega
theorem dp_none {k : Nat} (hn : n = (k : Int)) (hk : 2000 < k + 2) (hk2 : k ≤ 4095) : runOf (dp40 b39 b28 b10 b13 b23 b17 b19 b21 b37 b34 n b32) [] 1048576 = .spent := by
  obtain ⟨v, hv⟩ : ∃ q, q = putF (fun _ => none) 1 n := ⟨_, rfl⟩
  have g1 : getV v 1 = (k : Int) := by rw [hv, getV_put, if_pos rfl]; exact hn
  obtain ⟨j, m, e1, e2, e3⟩ := dp_no (n := n) (b39 := b39) (b28 := b28) (b10 := b10) (b13 := b13) (b23 := b23) (b17 := b17) (b19 := b19) (b21 := b21) (b37 := b37) (b34 := b34) (b32 := b32) k [] ⟨1, 0, 2, v, 0⟩ (putF (fun _ => none) 1 (getV v 1)) 2 [] 2 (max 1 2) (by rw [getV_put, if_pos rfl]; exact g1) (by omega) (by show 2000 < 0 + 2 + k; omega) (by decide)
  exact runM_none (k := j + 1 + 1) (goM_step' (m1 := dpS [⟨1, 0, 1, v, 0⟩] [] 1 1) rfl (by rw [hv]; exact dp_m1) (goM_step' (m1 := dpS ([] ++ [⟨1, 0, 2, v, 0⟩] ++ [⟨0, 0, 0, putF (fun _ => none) 1 (getV v 1), 2⟩]) [] 2 (max 1 2)) rfl dp_m2 e1)) e2 e3
end
set_option maxHeartbeats 8000000 in
theorem simDeep_spec (n0 : Int) : Spec Try.prog 5 [.int .i64 n0] [] (fun _ _ => True) fun r L' => r = .bool true ∧ L' = [] := by
  refine spec_of Try.func5 rfl rfl fun w0 f0 _ => ?_
  (repeat' (first | refine s_assign ?_ | refine s_nil ?_ | (refine k_C ?_; first | refine s_seq ?_ | refine s_region ?_) | (refine k_E ?_; refine e_seq ?_)))
  refine s_call0 head08_spec rfl (fun _ _ => trivial) ?_
  rintro r L' ⟨rfl, rfl⟩
  (repeat' (first | refine s_move ?_ | refine s_nil ?_ | (refine k_C ?_; first | refine s_seq ?_ | refine s_region ?_ | refine s_skip ?_ | refine s_iff rfl ?_) | (refine k_E ?_; refine e_seq ?_) | refine s_not rfl ?_))
  refine s_andM (c := 4095) rfl rfl (by decide) ?_
  intro k hk
  have hn : wfi (k : Int) := by unfold wfi; omega
  (repeat' (first | refine s_assign ?_ | refine s_nil ?_ | (refine k_C ?_; first | refine s_seq ?_ | refine s_region ?_) | (refine k_E ?_; refine e_seq ?_) | (refine s_lit [_] rfl (by decide) rfl ?_; intro b)))
  obtain ⟨b10, rfl⟩ : ∃ q, q = b := ⟨_, rfl⟩
  refine s_bld dp11 (by kernel_rfl) ?_
  refine s_bld dp12 (by kernel_rfl) ?_
  refine s_lit (α := SsaEdge) [dp11, dp12] rfl (by decide) (by kernel_rfl) ?_; intro b13
  refine s_bld (dp14 b13) (by kernel_rfl) ?_
  refine s_bld (dp15 b10 b13) (by kernel_rfl) ?_
  refine s_bld dp16 (by kernel_rfl) ?_
  refine s_lit (α := Int) [1, 2] rfl (by decide) (by kernel_rfl) ?_; intro b17
  refine s_bld (dp18 b17) (by kernel_rfl) ?_
  refine s_lit (α := Int) [3] rfl (by decide) (by kernel_rfl) ?_; intro b19
  refine s_bld (dp20 b19) (by kernel_rfl) ?_
  refine s_lit (α := Int) [4, 2] rfl (by decide) (by kernel_rfl) ?_; intro b21
  refine s_bld (dp22 b21) (by kernel_rfl) ?_
  refine s_lit (α := SsaIns) [dp16, (dp18 b17), (dp20 b19), (dp22 b21)] rfl (by decide) (by kernel_rfl) ?_; intro b23
  refine s_bld dp24 (by kernel_rfl) ?_
  refine s_bld (dp25 b23 b17 b19 b21) (by kernel_rfl) ?_
  refine s_bld dp26 (by kernel_rfl) ?_
  refine s_bld dp27 (by kernel_rfl) ?_
  refine s_lit (α := SsaBlock) [(dp15 b10 b13), (dp25 b23 b17 b19 b21), dp27] rfl (by decide) (by kernel_rfl) ?_; intro b28
  refine s_bld (dp29 b28 b10 b13 b23 b17 b19 b21) (by kernel_rfl) ?_
  refine s_move ?_
  refine s_bld (dp31 (k : Int)) (by kernel_rfl) ?_
  refine s_lit (α := Int) [1] rfl (by decide) (by kernel_rfl) ?_; intro b32
  refine s_bld (dp33 b32) (by kernel_rfl) ?_
  refine s_lit (α := SsaIns) [(dp31 (k : Int)), (dp33 b32)] rfl (by decide) (by kernel_rfl) ?_; intro b34
  refine s_bld dp35 (by kernel_rfl) ?_
  refine s_bld (dp36 b34 (k : Int) b32) (by kernel_rfl) ?_
  refine s_lit (α := SsaBlock) [(dp36 b34 (k : Int) b32)] rfl (by decide) (by kernel_rfl) ?_; intro b37
  refine s_bld (dp38 b37 b34 (k : Int) b32) (by kernel_rfl) ?_
  refine s_lit (α := SsaFunc) [(dp29 b28 b10 b13 b23 b17 b19 b21), (dp38 b37 b34 (k : Int) b32)] rfl (by decide) (by kernel_rfl) ?_; intro b39
  refine s_bld (dp40 b39 b28 b10 b13 b23 b17 b19 b21 b37 b34 (k : Int) b32) (by kernel_rfl) ?_
  (repeat' (first | refine s_nil ?_ | (refine k_C ?_; first | refine s_seq ?_ | refine s_region ?_) | (refine k_E ?_; refine e_seq ?_) | (refine k_load ?_; refine s_ldBW rfl rfl ?_) | (refine k_store ?_; refine s_stW _ rfl rfl ?_) | (refine s_alloc ?_; intro b)))
  obtain ⟨bp, rfl⟩ : ∃ q, q = b := ⟨_, rfl⟩
  refine so_sub (L' := [own 63 (some ⟨b39, 0, none⟩) 2 2 ([(dp29 b28 b10 b13 b23 b17 b19 b21), (dp38 b37 b34 (k : Int) b32)] : List SsaFunc), own 60 (some ⟨b37, 0, none⟩) 1 1 ([(dp36 b34 (k : Int) b32)] : List SsaBlock), own 51 (some ⟨b34, 0, none⟩) 2 2 ([(dp31 (k : Int)), (dp33 b32)] : List SsaIns), own 3 (some ⟨b32, 0, none⟩) 1 1 ([1] : List Int), own 60 (some ⟨b28, 0, none⟩) 3 3 ([(dp15 b10 b13), (dp25 b23 b17 b19 b21), dp27] : List SsaBlock), own 51 (some ⟨b23, 0, none⟩) 4 4 ([dp16, (dp18 b17), (dp20 b19), (dp22 b21)] : List SsaIns), own 3 (some ⟨b21, 0, none⟩) 2 2 ([4, 2] : List Int), own 3 (some ⟨b19, 0, none⟩) 1 1 ([3] : List Int), own 3 (some ⟨b17, 0, none⟩) 2 2 ([1, 2] : List Int), own 55 (some ⟨b13, 0, none⟩) 2 2 ([dp11, dp12] : List SsaEdge), own 3 (some ⟨b10, 0, none⟩) 1 1 ([1] : List Int), var 25 bp (dp40 b39 b28 b10 b13 b23 b17 b19 b21 b37 b34 (k : Int) b32)]) (PSub.take [1, 1, 1, 1, 1, 1, 1, 1, 1, 1, 1, 0] rfl) ?_
  refine s_call [] (run_spec (dp40 b39 b28 b10 b13 b23 b17 b19 b21 b37 b34 (k : Int) b32) dp_few ⟨none, 0, []⟩ (Nat.zero_le _) 1048576 (by decide)) rfl rfl (fun w1 f1 C => ⟨dp_rd C hn rfl, ⟨Dp.dflt _ _⟩⟩) ?_
  by_cases hd : 2000 < k + 2
  · have h9 := dp_none (n := (k : Int)) (b39 := b39) (b28 := b28) (b10 := b10) (b13 := b13) (b23 := b23) (b17 := b17) (b19 := b19) (b21 := b21) (b37 := b37) (b34 := b34) (b32 := b32) rfl hd hk
    rintro r L' (⟨h1, _⟩ | ⟨_, h1, rfl, rfl⟩ | ⟨_, m, h1, _⟩)
    · rw [dp_check] at h1; cases h1
    rotate_left
    · rw [h9] at h1; cases h1
    (repeat' (first | refine s_move ?_ | refine s_assign ?_ | refine s_nil ?_ | (refine k_C ?_; first | refine s_seq ?_ | refine s_region ?_ | refine s_ret ?_ | (refine s_ifd rfl ?_ ?_ <;> intro hc <;> try (exfalso; omega))) | (refine k_E ?_; first | refine e_seq ?_ | refine e_seq_ret ?_) | (refine k_bin ?_; first | refine s_add64 rfl rfl om ?_ | refine s_eql rfl rfl ?_ | refine s_gtr rfl rfl ?_) | (refine k_store ?_; refine s_stW _ rfl rfl ?_) | (refine s_alloc ?_; intro b) | refine s_extract rfl rfl ?_))
    exact e_done rfl rfl [] (PSub.take [] rfl) ⟨rfl, rfl⟩
  · obtain ⟨m9, hm9, h9v, h9d⟩ := dp_run (n := (k : Int)) (b39 := b39) (b28 := b28) (b10 := b10) (b13 := b13) (b23 := b23) (b17 := b17) (b19 := b19) (b21 := b21) (b37 := b37) (b34 := b34) (b32 := b32) rfl (by omega)
    rintro r L' (⟨h1, _⟩ | ⟨_, h1, _⟩ | ⟨_, m, h1, _, Al, cl, Am, cm, ss, hss, rfl, rfl⟩)
    · rw [dp_check] at h1; cases h1
    · rw [hm9] at h1; cases h1
    rw [hm9] at h1
    cases h1
    have hdp : (m9.deep : Int) = (k : Int) + 2 := by omega
    (repeat' (first | refine s_move ?_ | refine s_assign ?_ | refine s_nil ?_ | (refine k_C ?_; first | refine s_seq ?_ | refine s_region ?_ | refine s_skip ?_ | refine s_ret ?_ | (refine s_ifd rfl ?_ ?_ <;> intro hc <;> try (exfalso; omega))) | (refine k_E ?_; refine e_seq ?_) | (refine k_load ?_; refine s_ldB rfl rfl ?_) | (refine k_bin ?_; first | refine s_add64 rfl rfl om ?_ | refine s_eql rfl rfl ?_ | refine s_gtr rfl rfl ?_) | (refine k_fld ?_; refine s_fldB rfl ?_) | (refine k_store ?_; refine s_stW _ rfl rfl ?_) | (refine k_guard ?_; first | refine s_on rfl rfl ?_ | refine s_off rfl rfl rfl rfl ?_ | (refine s_casesd rfl rfl ?_ ?_ <;> intro hc <;> try (exfalso; omega))) | (refine s_alloc ?_; intro b) | refine s_pick rfl ?_ | refine s_extract rfl rfl ?_))
    all_goals first
      | exact absurd h9v hc
      | exact e_done rfl rfl [] (PSub.take [] rfl) ⟨congrArg Value.bool (decide_eq_true hdp), rfl⟩
end Go.Proofs.Ytoknjpmlloikhaa
