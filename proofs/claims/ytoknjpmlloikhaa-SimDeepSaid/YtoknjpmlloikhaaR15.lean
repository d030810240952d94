/- Layer 8: SimSwaps, plainly and walked. (printed by litgen.py and a template) -/
import Derived.Test.YtoknjpmlloikhaaR14
namespace Go.Proofs.Ytoknjpmlloikhaa
set_option linter.unusedVariables false
set_option linter.unusedSimpArgs false
open Go Go.RowKit

def fewB (p : SsaProg) : Bool := decide (p.fArrays.xs.length ≤ 10) && decide (p.fFuncs.xs.length ≤ 5) && p.fFuncs.xs.all fun f => decide (f.fBlocks.xs.length ≤ 30) && f.fBlocks.xs.all fun b => decide (b.fParams.xs.length ≤ 20) && decide (b.fIns.xs.length ≤ 40) && decide (b.fEnd.fWays.xs.length ≤ 5) && (b.fIns.xs.all fun i => decide (i.fArgs.xs.length ≤ 20)) && b.fEnd.fWays.xs.all fun w => decide (w.fArgs.xs.length ≤ 20)
theorem fewB_pr {p : SsaProg} (h : fewB p = true) : FewPr p := by
  unfold fewB at h
  simp only [Bool.and_eq_true, decide_eq_true_eq, List.all_eq_true] at h
  obtain ⟨⟨h1, h2⟩, h3⟩ := h
  refine ⟨h1, h2, fun f hf => ?_⟩
  obtain ⟨h4, h5⟩ := h3 _ (nth_mem hf)
  refine ⟨h4, fun b hb => ?_⟩
  obtain ⟨⟨⟨⟨h6, h7⟩, h8⟩, h9⟩, h10⟩ := h5 _ (nth_mem hb)
  exact ⟨h6, h7, h8, fun m hm => h9 _ (nth_mem hm), fun m hm => h10 _ (nth_mem hm)⟩
theorem goM_step {p : SsaProg} {m m1 : Mch} {k : Nat} (hf : m.fin = false) (h : stepM p { m with steps := m.steps + 1 } = some m1) : goM p (k + 1) m = goM p k m1 := by
  conv => lhs; unfold goM
  rw [if_neg (by rw [hf]; decide), h]
  rfl
theorem wrap_small {x : Int} (h0 : 0 ≤ x) (h1 : x ≤ 100000) : IntKind.i64.wrap x = x := i64_in _ (by omega)
def sw16 (a : Int) : SsaIns := ⟨1, 1, Enc.dflt, a, Enc.dflt, Enc.dflt, Enc.dflt⟩
def sw18 (b : Int) : SsaIns := ⟨1, 2, Enc.dflt, b, Enc.dflt, Enc.dflt, Enc.dflt⟩
def sw20 (n : Int) : SsaIns := ⟨1, 3, Enc.dflt, n, Enc.dflt, Enc.dflt, Enc.dflt⟩
def sw21 : SsaIns := ⟨1, 4, Enc.dflt, 1, Enc.dflt, Enc.dflt, Enc.dflt⟩
def sw24 (b23 : Nat) : SsaEdge := ⟨1, ⟨some ⟨b23, 0, none⟩, 3, [1, 2, 3]⟩⟩
def sw26 (b25 : Nat) (b23 : Nat) : SsaEnd := ⟨1, Enc.dflt, ⟨some ⟨b25, 0, none⟩, 1, [(sw24 b23)]⟩, Enc.dflt⟩
def sw27 (b22 : Nat) (a : Int) (b : Int) (n : Int) (b25 : Nat) (b23 : Nat) : SsaBlock := ⟨Enc.dflt, ⟨some ⟨b22, 0, none⟩, 4, [(sw16 a), (sw18 b), (sw20 n), sw21]⟩, (sw26 b25 b23)⟩
def sw29 : SsaEdge := ⟨2, Enc.dflt⟩
def sw30 : SsaEdge := ⟨3, Enc.dflt⟩
def sw32 (b31 : Nat) : SsaEnd := ⟨2, 7, ⟨some ⟨b31, 0, none⟩, 2, [sw29, sw30]⟩, Enc.dflt⟩
def sw33 (b28 : Nat) (b31 : Nat) : SsaBlock := ⟨⟨some ⟨b28, 0, none⟩, 3, [5, 6, 7]⟩, Enc.dflt, (sw32 b31)⟩
def sw35 (b34 : Nat) : SsaIns := ⟨2, 8, ⟨some ⟨b34, 0, none⟩, 2, [7, 4]⟩, Enc.dflt, 2, Enc.dflt, Enc.dflt⟩
def sw38 (b37 : Nat) : SsaEdge := ⟨1, ⟨some ⟨b37, 0, none⟩, 3, [6, 5, 8]⟩⟩
def sw40 (b39 : Nat) (b37 : Nat) : SsaEnd := ⟨1, Enc.dflt, ⟨some ⟨b39, 0, none⟩, 1, [(sw38 b37)]⟩, Enc.dflt⟩
def sw41 (b36 : Nat) (b34 : Nat) (b39 : Nat) (b37 : Nat) : SsaBlock := ⟨Enc.dflt, ⟨some ⟨b36, 0, none⟩, 1, [(sw35 b34)]⟩, (sw40 b39 b37)⟩
def sw42 : SsaEnd := ⟨3, 5, Enc.dflt, Enc.dflt⟩
def sw43 : SsaBlock := ⟨Enc.dflt, Enc.dflt, sw42⟩
def sw45 (b44 : Nat) (b22 : Nat) (a : Int) (b : Int) (n : Int) (b25 : Nat) (b23 : Nat) (b28 : Nat) (b31 : Nat) (b36 : Nat) (b34 : Nat) (b39 : Nat) (b37 : Nat) : SsaFunc := ⟨Enc.dflt, ⟨some ⟨b44, 0, none⟩, 4, [(sw27 b22 a b n b25 b23), (sw33 b28 b31), (sw41 b36 b34 b39 b37), sw43]⟩⟩
def sw47 (b46 : Nat) (b44 : Nat) (b22 : Nat) (a : Int) (b : Int) (n : Int) (b25 : Nat) (b23 : Nat) (b28 : Nat) (b31 : Nat) (b36 : Nat) (b34 : Nat) (b39 : Nat) (b37 : Nat) : SsaProg := ⟨Enc.dflt, ⟨some ⟨b46, 0, none⟩, 1, [(sw45 b44 b22 a b n b25 b23 b28 b31 b36 b34 b39 b37)]⟩, Enc.dflt⟩
theorem sw_rd {w0 w1 : World} {f0 f1 : FP} {L1 L2 L3 : List HP} {b46 : Nat} {b44 : Nat} {b22 : Nat} {a : Int} {b : Int} {n : Int} {b25 : Nat} {b23 : Nat} {b28 : Nat} {b31 : Nat} {b36 : Nat} {b34 : Nat} {b39 : Nat} {b37 : Nat} (C : Ctx w0 f0 L1 L2 w1 f1) (ha : wfi a) (hb : wfi b) (hn : wfi n)
    (hL : L2 = own 63 (some ⟨b46, 0, none⟩) 1 1 ([(sw45 b44 b22 a b n b25 b23 b28 b31 b36 b34 b39 b37)] : List SsaFunc) :: own 60 (some ⟨b44, 0, none⟩) 4 4 ([(sw27 b22 a b n b25 b23), (sw33 b28 b31), (sw41 b36 b34 b39 b37), sw43] : List SsaBlock) :: own 55 (some ⟨b39, 0, none⟩) 1 1 ([(sw38 b37)] : List SsaEdge) :: own 3 (some ⟨b37, 0, none⟩) 3 3 ([6, 5, 8] : List Int) :: own 51 (some ⟨b36, 0, none⟩) 1 1 ([(sw35 b34)] : List SsaIns) :: own 3 (some ⟨b34, 0, none⟩) 2 2 ([7, 4] : List Int) :: own 55 (some ⟨b31, 0, none⟩) 2 2 ([sw29, sw30] : List SsaEdge) :: own 3 (some ⟨b28, 0, none⟩) 3 3 ([5, 6, 7] : List Int) :: own 55 (some ⟨b25, 0, none⟩) 1 1 ([(sw24 b23)] : List SsaEdge) :: own 3 (some ⟨b23, 0, none⟩) 3 3 ([1, 2, 3] : List Int) :: own 51 (some ⟨b22, 0, none⟩) 4 4 ([(sw16 a), (sw18 b), (sw20 n), sw21] : List SsaIns) :: L3) : RdD (okOf w1 f1) w1 (sw47 b46 b44 b22 a b n b25 b23 b28 b31 b36 b34 b39 b37) := by
  subst hL
  have r16 : Dp.rd (okOf w1 f1) w1 (sw16 a) := ⟨(show wfi 1 by constructor <;> decide), (show wfi 1 by constructor <;> decide), (Dp.dflt _ _), ha, (Dp.dflt _ _), (Dp.dflt _ _), (Dp.dflt _ _)⟩
  have r18 : Dp.rd (okOf w1 f1) w1 (sw18 b) := ⟨(show wfi 1 by constructor <;> decide), (show wfi 2 by constructor <;> decide), (Dp.dflt _ _), hb, (Dp.dflt _ _), (Dp.dflt _ _), (Dp.dflt _ _)⟩
  have r20 : Dp.rd (okOf w1 f1) w1 (sw20 n) := ⟨(show wfi 1 by constructor <;> decide), (show wfi 3 by constructor <;> decide), (Dp.dflt _ _), hn, (Dp.dflt _ _), (Dp.dflt _ _), (Dp.dflt _ _)⟩
  have r21 : Dp.rd (okOf w1 f1) w1 sw21 := ⟨(show wfi 1 by constructor <;> decide), (show wfi 4 by constructor <;> decide), (Dp.dflt _ _), (show wfi 1 by constructor <;> decide), (Dp.dflt _ _), (Dp.dflt _ _), (Dp.dflt _ _)⟩
  have r22 : Dp.rd (okOf w1 f1) w1 (⟨some ⟨b22, 0, none⟩, 4, [(sw16 a), (sw18 b), (sw20 n), sw21]⟩ : Sl SsaIns) := C.lit (e := 51) (l := 4) (all_cons r16 (all_cons r18 (all_cons r20 (all_cons r21 all_nil))))
  have r23 : Dp.rd (okOf w1 f1) w1 (⟨some ⟨b23, 0, none⟩, 3, [1, 2, 3]⟩ : Sl Int) := C.lit (e := 3) (l := 3) (all_cons (show wfi 1 by constructor <;> decide) (all_cons (show wfi 2 by constructor <;> decide) (all_cons (show wfi 3 by constructor <;> decide) all_nil)))
  have r24 : Dp.rd (okOf w1 f1) w1 (sw24 b23) := ⟨(show wfi 1 by constructor <;> decide), r23⟩
  have r25 : Dp.rd (okOf w1 f1) w1 (⟨some ⟨b25, 0, none⟩, 1, [(sw24 b23)]⟩ : Sl SsaEdge) := C.lit (e := 55) (l := 1) (all_cons r24 all_nil)
  have r26 : Dp.rd (okOf w1 f1) w1 (sw26 b25 b23) := ⟨(show wfi 1 by constructor <;> decide), (Dp.dflt _ _), r25, (Dp.dflt _ _)⟩
  have r27 : Dp.rd (okOf w1 f1) w1 (sw27 b22 a b n b25 b23) := ⟨(Dp.dflt _ _), r22, r26⟩
  have r28 : Dp.rd (okOf w1 f1) w1 (⟨some ⟨b28, 0, none⟩, 3, [5, 6, 7]⟩ : Sl Int) := C.lit (e := 3) (l := 3) (all_cons (show wfi 5 by constructor <;> decide) (all_cons (show wfi 6 by constructor <;> decide) (all_cons (show wfi 7 by constructor <;> decide) all_nil)))
  have r29 : Dp.rd (okOf w1 f1) w1 sw29 := ⟨(show wfi 2 by constructor <;> decide), (Dp.dflt _ _)⟩
  have r30 : Dp.rd (okOf w1 f1) w1 sw30 := ⟨(show wfi 3 by constructor <;> decide), (Dp.dflt _ _)⟩
  have r31 : Dp.rd (okOf w1 f1) w1 (⟨some ⟨b31, 0, none⟩, 2, [sw29, sw30]⟩ : Sl SsaEdge) := C.lit (e := 55) (l := 2) (all_cons r29 (all_cons r30 all_nil))
  have r32 : Dp.rd (okOf w1 f1) w1 (sw32 b31) := ⟨(show wfi 2 by constructor <;> decide), (show wfi 7 by constructor <;> decide), r31, (Dp.dflt _ _)⟩
  have r33 : Dp.rd (okOf w1 f1) w1 (sw33 b28 b31) := ⟨r28, (Dp.dflt _ _), r32⟩
  have r34 : Dp.rd (okOf w1 f1) w1 (⟨some ⟨b34, 0, none⟩, 2, [7, 4]⟩ : Sl Int) := C.lit (e := 3) (l := 2) (all_cons (show wfi 7 by constructor <;> decide) (all_cons (show wfi 4 by constructor <;> decide) all_nil))
  have r35 : Dp.rd (okOf w1 f1) w1 (sw35 b34) := ⟨(show wfi 2 by constructor <;> decide), (show wfi 8 by constructor <;> decide), r34, (Dp.dflt _ _), (show wfi 2 by constructor <;> decide), (Dp.dflt _ _), (Dp.dflt _ _)⟩
  have r36 : Dp.rd (okOf w1 f1) w1 (⟨some ⟨b36, 0, none⟩, 1, [(sw35 b34)]⟩ : Sl SsaIns) := C.lit (e := 51) (l := 1) (all_cons r35 all_nil)
  have r37 : Dp.rd (okOf w1 f1) w1 (⟨some ⟨b37, 0, none⟩, 3, [6, 5, 8]⟩ : Sl Int) := C.lit (e := 3) (l := 3) (all_cons (show wfi 6 by constructor <;> decide) (all_cons (show wfi 5 by constructor <;> decide) (all_cons (show wfi 8 by constructor <;> decide) all_nil)))
  have r38 : Dp.rd (okOf w1 f1) w1 (sw38 b37) := ⟨(show wfi 1 by constructor <;> decide), r37⟩
  have r39 : Dp.rd (okOf w1 f1) w1 (⟨some ⟨b39, 0, none⟩, 1, [(sw38 b37)]⟩ : Sl SsaEdge) := C.lit (e := 55) (l := 1) (all_cons r38 all_nil)
  have r40 : Dp.rd (okOf w1 f1) w1 (sw40 b39 b37) := ⟨(show wfi 1 by constructor <;> decide), (Dp.dflt _ _), r39, (Dp.dflt _ _)⟩
  have r41 : Dp.rd (okOf w1 f1) w1 (sw41 b36 b34 b39 b37) := ⟨(Dp.dflt _ _), r36, r40⟩
  have r42 : Dp.rd (okOf w1 f1) w1 sw42 := ⟨(show wfi 3 by constructor <;> decide), (show wfi 5 by constructor <;> decide), (Dp.dflt _ _), (Dp.dflt _ _)⟩
  have r43 : Dp.rd (okOf w1 f1) w1 sw43 := ⟨(Dp.dflt _ _), (Dp.dflt _ _), r42⟩
  have r44 : Dp.rd (okOf w1 f1) w1 (⟨some ⟨b44, 0, none⟩, 4, [(sw27 b22 a b n b25 b23), (sw33 b28 b31), (sw41 b36 b34 b39 b37), sw43]⟩ : Sl SsaBlock) := C.lit (e := 60) (l := 4) (all_cons r27 (all_cons r33 (all_cons r41 (all_cons r43 all_nil))))
  have r45 : Dp.rd (okOf w1 f1) w1 (sw45 b44 b22 a b n b25 b23 b28 b31 b36 b34 b39 b37) := ⟨trivial, r44⟩
  have r46 : Dp.rd (okOf w1 f1) w1 (⟨some ⟨b46, 0, none⟩, 1, [(sw45 b44 b22 a b n b25 b23 b28 b31 b36 b34 b39 b37)]⟩ : Sl SsaFunc) := C.lit (e := 63) (l := 1) (all_cons r45 all_nil)
  have r47 : Dp.rd (okOf w1 f1) w1 (sw47 b46 b44 b22 a b n b25 b23 b28 b31 b36 b34 b39 b37) := ⟨(Dp.dflt _ _), r46, (Dp.dflt _ _)⟩
  exact ⟨r47⟩
def swS (bl at_ : Nat) (v : Int → Option Int) (l : List ApiLeak) (s : Nat) : Mch := ⟨[⟨0, bl, at_, v, 0⟩], 0, 0, l, s, 1, [], false⟩
section
variable {a b n : Int} {b46 b44 b22 b25 b23 b28 b31 b36 b34 b39 b37 : Nat}
theorem sw_few : FewPr (sw47 b46 b44 b22 a b n b25 b23 b28 b31 b36 b34 b39 b37) := fewB_pr (by kernel_rfl)
theorem sw_check : checkB (sw47 b46 b44 b22 a b n b25 b23 b28 b31 b36 b34 b39 b37) = true := by kernel_rfl
theorem sw_1 {v : Int → Option Int} {l : List ApiLeak} {s : Nat} : stepM (sw47 b46 b44 b22 a b n b25 b23 b28 b31 b36 b34 b39 b37) (swS 0 0 v l s) = some (swS 0 1 (putF v 1 a) l s) := rfl
theorem sw_2 {v : Int → Option Int} {l : List ApiLeak} {s : Nat} : stepM (sw47 b46 b44 b22 a b n b25 b23 b28 b31 b36 b34 b39 b37) (swS 0 1 v l s) = some (swS 0 2 (putF v 2 b) l s) := rfl
theorem sw_3 {v : Int → Option Int} {l : List ApiLeak} {s : Nat} : stepM (sw47 b46 b44 b22 a b n b25 b23 b28 b31 b36 b34 b39 b37) (swS 0 2 v l s) = some (swS 0 3 (putF v 3 n) l s) := rfl
theorem sw_4 {v : Int → Option Int} {l : List ApiLeak} {s : Nat} : stepM (sw47 b46 b44 b22 a b n b25 b23 b28 b31 b36 b34 b39 b37) (swS 0 3 v l s) = some (swS 0 4 (putF v 4 1) l s) := rfl
theorem sw_5 {v : Int → Option Int} {l : List ApiLeak} {s : Nat} : stepM (sw47 b46 b44 b22 a b n b25 b23 b28 b31 b36 b34 b39 b37) (swS 0 4 v l s) = some (swS 1 0 (putF (putF (putF v 5 (getV v 1)) 6 (getV v 2)) 7 (getV v 3)) l s) := rfl
theorem sw_br {v : Int → Option Int} {l : List ApiLeak} {s : Nat} (h : getV v 7 ≠ 0) : stepM (sw47 b46 b44 b22 a b n b25 b23 b28 b31 b36 b34 b39 b37) (swS 1 0 v l s) = some (swS 2 0 v (l ++ [⟨1, 1, 0⟩]) s) := by
  have : stepM (sw47 b46 b44 b22 a b n b25 b23 b28 b31 b36 b34 b39 b37) (swS 1 0 v l s) = some (wayM (sw47 b46 b44 b22 a b n b25 b23 b28 b31 b36 b34 b39 b37) ((swS 1 0 v l s).leak ⟨1, if getV v 7 ≠ 0 then 1 else 0, 0⟩) ⟨0, 1, 0, v, 0⟩ (sw32 b31) (1 - if getV v 7 ≠ 0 then 1 else 0 : Int).toNat) := rfl
  rw [this, if_pos h]
  rfl
theorem sw_br0 {v : Int → Option Int} {l : List ApiLeak} {s : Nat} (h : getV v 7 = 0) : stepM (sw47 b46 b44 b22 a b n b25 b23 b28 b31 b36 b34 b39 b37) (swS 1 0 v l s) = some (swS 3 0 v (l ++ [⟨1, 0, 0⟩]) s) := by
  have : stepM (sw47 b46 b44 b22 a b n b25 b23 b28 b31 b36 b34 b39 b37) (swS 1 0 v l s) = some (wayM (sw47 b46 b44 b22 a b n b25 b23 b28 b31 b36 b34 b39 b37) ((swS 1 0 v l s).leak ⟨1, if getV v 7 ≠ 0 then 1 else 0, 0⟩) ⟨0, 1, 0, v, 0⟩ (sw32 b31) (1 - if getV v 7 ≠ 0 then 1 else 0 : Int).toNat) := rfl
  rw [this, if_neg (by rw [h]; decide)]
  rfl
theorem sw_sub {v : Int → Option Int} {l : List ApiLeak} {s : Nat} : stepM (sw47 b46 b44 b22 a b n b25 b23 b28 b31 b36 b34 b39 b37) (swS 2 0 v l s) = some (swS 2 1 (putF v 8 (IntKind.i64.wrap (getV v 7 - getV v 4))) l s) := rfl
theorem sw_jmp {v : Int → Option Int} {l : List ApiLeak} {s : Nat} : stepM (sw47 b46 b44 b22 a b n b25 b23 b28 b31 b36 b34 b39 b37) (swS 2 1 v l s) = some (swS 1 0 (putF (putF (putF v 5 (getV v 6)) 6 (getV v 5)) 7 (getV v 8)) l s) := rfl
theorem sw_ret {v : Int → Option Int} {l : List ApiLeak} {s : Nat} : stepM (sw47 b46 b44 b22 a b n b25 b23 b28 b31 b36 b34 b39 b37) (swS 3 0 v l s) = some ⟨[], getV v 5, 0, l, s, 1, [], true⟩ := rfl
theorem sw_loop : ∀ (k : Nat) (v : Int → Option Int) (x y : Int) (l : List ApiLeak) (s : Nat), getV v 4 = 1 → getV v 5 = x → getV v 6 = y → getV v 7 = (k : Int) → k ≤ 100 →
    ∃ m, goM (sw47 b46 b44 b22 a b n b25 b23 b28 b31 b36 b34 b39 b37) (3 * k + 2) (swS 1 0 v l s) = some m ∧ m.fin = true ∧ m.val = (if k % 2 = 1 then y else x) ∧ m.leaks.length = l.length + k + 1
  | 0, v, x, y, l, s, h4, h5, h6, h7, hk => by
    refine ⟨⟨[], getV v 5, 0, l ++ [⟨1, 0, 0⟩], s + 1 + 1, 1, [], true⟩, ?_, rfl, ?_, ?_⟩
    · show goM _ (0 + 1 + 1) _ = _
      rw [goM_step rfl (m1 := swS 3 0 v (l ++ [⟨1, 0, 0⟩]) (s + 1)) (sw_br0 h7), goM_step rfl (m1 := ⟨[], getV v 5, 0, l ++ [⟨1, 0, 0⟩], s + 1 + 1, 1, [], true⟩) sw_ret]
      rfl
    · rw [if_neg (by decide)]; exact h5
    · rw [List.length_append]; rfl
  | k + 1, v, x, y, l, s, h4, h5, h6, h7, hk => by
    have h8 : IntKind.i64.wrap (getV v 7 - getV v 4) = (k : Int) := by
      rw [h7, h4, wrap_small (by omega) (by omega)]; omega
    obtain ⟨v2, hv2⟩ : ∃ q, q = putF v 8 (IntKind.i64.wrap (getV v 7 - getV v 4)) := ⟨_, rfl⟩
    obtain ⟨v3, hv3⟩ : ∃ q, q = putF (putF (putF v2 5 (getV v2 6)) 6 (getV v2 5)) 7 (getV v2 8) := ⟨_, rfl⟩
    have g4 : getV v3 4 = 1 := by rw [hv3, getV_put, if_neg (by decide), getV_put, if_neg (by decide), getV_put, if_neg (by decide), hv2, getV_put, if_neg (by decide)]; exact h4
    have g5 : getV v3 5 = y := by rw [hv3, getV_put, if_neg (by decide), getV_put, if_neg (by decide), getV_put, if_pos rfl, hv2, getV_put, if_neg (by decide)]; exact h6
    have g6 : getV v3 6 = x := by rw [hv3, getV_put, if_neg (by decide), getV_put, if_pos rfl, hv2, getV_put, if_neg (by decide)]; exact h5
    have g7 : getV v3 7 = (k : Int) := by rw [hv3, getV_put, if_pos rfl, hv2, getV_put, if_pos rfl]; exact h8
    obtain ⟨m, e1, e2, e3, e4⟩ := sw_loop k v3 y x (l ++ [⟨1, 1, 0⟩]) (s + 1 + 1 + 1) g4 g5 g6 g7 (by omega)
    refine ⟨m, ?_, e2, ?_, ?_⟩
    · rw [show 3 * (k + 1) + 2 = 3 * k + 2 + 1 + 1 + 1 by omega, goM_step rfl (m1 := swS 2 0 v (l ++ [⟨1, 1, 0⟩]) (s + 1)) (sw_br (by rw [h7]; omega)), goM_step rfl (m1 := swS 2 1 v2 (l ++ [⟨1, 1, 0⟩]) (s + 1 + 1)) (by rw [hv2]; exact sw_sub), goM_step rfl (m1 := swS 1 0 v3 (l ++ [⟨1, 1, 0⟩]) (s + 1 + 1 + 1)) (by rw [hv3]; exact sw_jmp)]
      exact e1
    · rw [e3]
      rcases Nat.mod_two_eq_zero_or_one k with h | h
      · rw [if_neg (by omega), if_pos (by omega)]
      · rw [if_pos h, if_neg (by omega)]
    · rw [e4, List.length_append]
      show l.length + 1 + k + 1 = _
      omega
theorem sw_run {k : Nat} (hn : n = (k : Int)) (hk : k ≤ 100) : ∃ m, runOf (sw47 b46 b44 b22 a b n b25 b23 b28 b31 b36 b34 b39 b37) [] 1000 = .out m ∧ m.val = (if k % 2 = 1 then b else a) ∧ m.leaks.length = k + 1 ∧ m.steps = 5 + k * 3 + 2 := by
  obtain ⟨v, hv⟩ : ∃ q, q = putF (putF (putF (putF (fun _ => none) 1 a) 2 b) 3 n) 4 1 := ⟨_, rfl⟩
  obtain ⟨v3, hv3⟩ : ∃ q, q = putF (putF (putF v 5 (getV v 1)) 6 (getV v 2)) 7 (getV v 3) := ⟨_, rfl⟩
  have g1 : getV v 1 = a := by rw [hv]; rfl
  have g2 : getV v 2 = b := by rw [hv]; rfl
  have g3 : getV v 3 = n := by rw [hv]; rfl
  have g4 : getV v 4 = 1 := by rw [hv]; rfl
  obtain ⟨m, e1, e2, e3, e4⟩ := sw_loop (a := a) (b := b) (n := n) (b46 := b46) (b44 := b44) (b22 := b22) (b25 := b25) (b23 := b23) (b28 := b28) (b31 := b31) (b36 := b36) (b34 := b34) (b39 := b39) (b37 := b37) k v3 a b [] 5 (by rw [hv3, getV_put, if_neg (by decide), getV_put, if_neg (by decide), getV_put, if_neg (by decide)]; exact g4) (by rw [hv3, getV_put, if_neg (by decide), getV_put, if_neg (by decide), getV_put, if_pos rfl]; exact g1) (by rw [hv3, getV_put, if_neg (by decide), getV_put, if_pos rfl]; exact g2) (by rw [hv3, getV_put, if_pos rfl, g3]; exact hn) hk
  have h : goM (sw47 b46 b44 b22 a b n b25 b23 b28 b31 b36 b34 b39 b37) (3 * k + 2 + 1 + 1 + 1 + 1 + 1) (swS 0 0 (fun _ => none) [] 0) = some m := by
    rw [goM_step rfl (m1 := swS 0 1 _ [] 1) sw_1, goM_step rfl (m1 := swS 0 2 _ [] 2) sw_2, goM_step rfl (m1 := swS 0 3 _ [] 3) sw_3, goM_step rfl (m1 := swS 0 4 v [] 4) (by rw [hv]; exact sw_4), goM_step rfl (m1 := swS 1 0 v3 [] 5) (by rw [hv3]; exact sw_5)]
    exact e1
  have hs := goM_steps h
  refine ⟨m, runOf_out (k := 3 * k + 2 + 1 + 1 + 1 + 1 + 1) h e2 (by omega), e3, by rw [e4]; show 0 + k + 1 = _; omega, ?_⟩
  rw [hs]
  show 0 + _ = _
  omega
end
set_option maxHeartbeats 8000000 in
theorem simSwaps_spec (a b n : Int) (ha : wfi a) (hb : wfi b) : Spec Try.prog 4 [.int .i64 a, .int .i64 b, .int .i64 n] [] (fun _ _ => True) fun r L' => r = .bool true ∧ L' = [] := by
  refine spec_of Try.func4 rfl rfl fun w0 f0 _ => ?_
  (repeat' (first | refine s_assign ?_ | refine s_nil ?_ | (refine k_C ?_; first | refine s_seq ?_ | refine s_region ?_) | (refine k_E ?_; refine e_seq ?_)))
  refine s_call0 head08_spec rfl (fun _ _ => trivial) ?_
  rintro r L' ⟨rfl, rfl⟩
  (repeat' (first | refine s_move ?_ | refine s_nil ?_ | (refine k_C ?_; first | refine s_seq ?_ | refine s_region ?_ | refine s_skip ?_ | refine s_iff rfl ?_) | (refine k_E ?_; refine e_seq ?_) | refine s_not rfl ?_))
  refine s_andM (c := 63) rfl rfl (by decide) ?_
  intro k hk
  (repeat' (first | refine s_move ?_ | refine s_assign ?_ | refine s_nil ?_ | (refine k_C ?_; first | refine s_seq ?_ | refine s_region ?_) | (refine k_E ?_; refine e_seq ?_)))
  have hn : wfi (k : Int) := by unfold wfi; omega
  refine s_bld (sw16 a) (by kernel_rfl) ?_
  refine s_move ?_
  refine s_bld (sw18 b) (by kernel_rfl) ?_
  refine s_move ?_
  refine s_bld (sw20 (k : Int)) (by kernel_rfl) ?_
  refine s_bld sw21 (by kernel_rfl) ?_
  refine s_lit (α := SsaIns) [(sw16 a), (sw18 b), (sw20 (k : Int)), sw21] rfl (by decide) (by kernel_rfl) ?_; intro b22
  refine s_lit (α := Int) [1, 2, 3] rfl (by decide) (by kernel_rfl) ?_; intro b23
  refine s_bld (sw24 b23) (by kernel_rfl) ?_
  refine s_lit (α := SsaEdge) [(sw24 b23)] rfl (by decide) (by kernel_rfl) ?_; intro b25
  refine s_bld (sw26 b25 b23) (by kernel_rfl) ?_
  refine s_bld (sw27 b22 a b (k : Int) b25 b23) (by kernel_rfl) ?_
  refine s_lit (α := Int) [5, 6, 7] rfl (by decide) (by kernel_rfl) ?_; intro b28
  refine s_bld sw29 (by kernel_rfl) ?_
  refine s_bld sw30 (by kernel_rfl) ?_
  refine s_lit (α := SsaEdge) [sw29, sw30] rfl (by decide) (by kernel_rfl) ?_; intro b31
  refine s_bld (sw32 b31) (by kernel_rfl) ?_
  refine s_bld (sw33 b28 b31) (by kernel_rfl) ?_
  refine s_lit (α := Int) [7, 4] rfl (by decide) (by kernel_rfl) ?_; intro b34
  refine s_bld (sw35 b34) (by kernel_rfl) ?_
  refine s_lit (α := SsaIns) [(sw35 b34)] rfl (by decide) (by kernel_rfl) ?_; intro b36
  refine s_lit (α := Int) [6, 5, 8] rfl (by decide) (by kernel_rfl) ?_; intro b37
  refine s_bld (sw38 b37) (by kernel_rfl) ?_
  refine s_lit (α := SsaEdge) [(sw38 b37)] rfl (by decide) (by kernel_rfl) ?_; intro b39
  refine s_bld (sw40 b39 b37) (by kernel_rfl) ?_
  refine s_bld (sw41 b36 b34 b39 b37) (by kernel_rfl) ?_
  refine s_bld sw42 (by kernel_rfl) ?_
  refine s_bld sw43 (by kernel_rfl) ?_
  refine s_lit (α := SsaBlock) [(sw27 b22 a b (k : Int) b25 b23), (sw33 b28 b31), (sw41 b36 b34 b39 b37), sw43] rfl (by decide) (by kernel_rfl) ?_; intro b44
  refine s_bld (sw45 b44 b22 a b (k : Int) b25 b23 b28 b31 b36 b34 b39 b37) (by kernel_rfl) ?_
  refine s_lit (α := SsaFunc) [(sw45 b44 b22 a b (k : Int) b25 b23 b28 b31 b36 b34 b39 b37)] rfl (by decide) (by kernel_rfl) ?_; intro b46
  refine s_bld (sw47 b46 b44 b22 a b (k : Int) b25 b23 b28 b31 b36 b34 b39 b37) (by kernel_rfl) ?_
  (repeat' (first | refine s_nil ?_ | (refine k_C ?_; first | refine s_seq ?_ | refine s_region ?_) | (refine k_E ?_; refine e_seq ?_) | (refine k_load ?_; refine s_ldBW rfl rfl ?_) | (refine k_store ?_; refine s_stW _ rfl rfl ?_) | (refine s_alloc ?_; intro b)))
  obtain ⟨bp, rfl⟩ : ∃ q, q = b := ⟨_, rfl⟩
  refine so_sub (L' := [own 63 (some ⟨b46, 0, none⟩) 1 1 ([(sw45 b44 b22 a b (k : Int) b25 b23 b28 b31 b36 b34 b39 b37)] : List SsaFunc), own 60 (some ⟨b44, 0, none⟩) 4 4 ([(sw27 b22 a b (k : Int) b25 b23), (sw33 b28 b31), (sw41 b36 b34 b39 b37), sw43] : List SsaBlock), own 55 (some ⟨b39, 0, none⟩) 1 1 ([(sw38 b37)] : List SsaEdge), own 3 (some ⟨b37, 0, none⟩) 3 3 ([6, 5, 8] : List Int), own 51 (some ⟨b36, 0, none⟩) 1 1 ([(sw35 b34)] : List SsaIns), own 3 (some ⟨b34, 0, none⟩) 2 2 ([7, 4] : List Int), own 55 (some ⟨b31, 0, none⟩) 2 2 ([sw29, sw30] : List SsaEdge), own 3 (some ⟨b28, 0, none⟩) 3 3 ([5, 6, 7] : List Int), own 55 (some ⟨b25, 0, none⟩) 1 1 ([(sw24 b23)] : List SsaEdge), own 3 (some ⟨b23, 0, none⟩) 3 3 ([1, 2, 3] : List Int), own 51 (some ⟨b22, 0, none⟩) 4 4 ([(sw16 a), (sw18 b), (sw20 (k : Int)), sw21] : List SsaIns), var 25 bp (sw47 b46 b44 b22 a b (k : Int) b25 b23 b28 b31 b36 b34 b39 b37)]) (PSub.take [1, 1, 1, 1, 1, 1, 1, 1, 1, 1, 1, 0] rfl) ?_
  obtain ⟨m9, hm9, h9v, h9l, h9s⟩ := sw_run (a := a) (b := b) (n := (k : Int)) (b46 := b46) (b44 := b44) (b22 := b22) (b25 := b25) (b23 := b23) (b28 := b28) (b31 := b31) (b36 := b36) (b34 := b34) (b39 := b39) (b37 := b37) rfl (by omega : k ≤ 100)
  refine s_call [] (run_spec (sw47 b46 b44 b22 a b (k : Int) b25 b23 b28 b31 b36 b34 b39 b37) sw_few ⟨none, 0, []⟩ (Nat.zero_le _) 1000 (by decide)) rfl rfl (fun w1 f1 C => ⟨sw_rd C ha hb hn rfl, ⟨Dp.dflt _ _⟩⟩) ?_
  rintro r L' (⟨h1, _⟩ | ⟨_, h1, _⟩ | ⟨_, m, h1, _, Al, cl, Am, cm, ss, hss, rfl, rfl⟩)
  · rw [sw_check] at h1; cases h1
  · rw [hm9] at h1; cases h1
  rw [hm9] at h1
  cases h1
  have hlen : (m9.leaks.length : Int) = (k : Int) + 1 := by omega
  have hst : (m9.steps : Int) = 5 + (k : Int) * 3 + 2 := by omega
  rcases Nat.mod_two_eq_zero_or_one k with hp | hp
  · have ht : (k : Int).tmod 2 = 0 := by rw [Int.tmod_eq_emod_of_nonneg (by omega)]; omega
    rw [if_neg (by omega)] at h9v
    (repeat' (first | refine s_move ?_ | refine s_assign ?_ | refine s_nil ?_ | (refine k_C ?_; first | refine s_seq ?_ | refine s_region ?_ | refine s_skip ?_ | refine s_ret ?_ | (refine s_ifd rfl ?_ ?_ <;> intro hc <;> try (exfalso; omega))) | (refine k_E ?_; refine e_seq ?_) | (refine k_load ?_; refine s_ldB rfl rfl ?_) | (refine k_bin ?_; first | refine s_add1 rfl rfl om ?_ | refine s_add64 rfl rfl om ?_ | refine s_eql rfl rfl ?_ | refine s_rem rfl rfl om ?_ | refine s_mul64 rfl rfl om ?_) | (refine k_fld ?_; refine s_fldB rfl ?_) | (refine k_store ?_; refine s_stW _ rfl rfl ?_) | (refine k_call ?_; refine s_len rfl ?_) | (refine k_guard ?_; first | refine s_on rfl rfl ?_ | refine s_off rfl rfl rfl rfl ?_ | (refine s_casesd rfl rfl ?_ ?_ <;> intro hc <;> try (exfalso; omega))) | (refine s_alloc ?_; intro b) | refine s_pick rfl ?_ | refine s_extract rfl rfl ?_))
    all_goals first
      | exact absurd h9v hc
      | exact absurd hlen hc
      | exact e_done rfl rfl [] (PSub.take [] rfl) ⟨congrArg Value.bool (decide_eq_true hst), rfl⟩
  · have ht : (k : Int).tmod 2 = 1 := by rw [Int.tmod_eq_emod_of_nonneg (by omega)]; omega
    rw [if_pos hp] at h9v
    (repeat' (first | refine s_move ?_ | refine s_assign ?_ | refine s_nil ?_ | (refine k_C ?_; first | refine s_seq ?_ | refine s_region ?_ | refine s_ret ?_ | (refine s_ifd rfl ?_ ?_ <;> intro hc <;> try (exfalso; omega))) | (refine k_E ?_; refine e_seq ?_) | (refine k_load ?_; refine s_ldB rfl rfl ?_) | (refine k_bin ?_; first | refine s_add1 rfl rfl om ?_ | refine s_add64 rfl rfl om ?_ | refine s_eql rfl rfl ?_ | refine s_rem rfl rfl om ?_ | refine s_mul64 rfl rfl om ?_) | (refine k_fld ?_; refine s_fldB rfl ?_) | (refine k_store ?_; refine s_stW _ rfl rfl ?_) | (refine k_call ?_; refine s_len rfl ?_) | (refine k_guard ?_; first | refine s_on rfl rfl ?_ | refine s_off rfl rfl rfl rfl ?_ | (refine s_casesd rfl rfl ?_ ?_ <;> intro hc <;> try (exfalso; omega))) | (refine s_alloc ?_; intro b) | refine s_pick rfl ?_ | refine s_extract rfl rfl ?_))
    all_goals first
      | exact absurd h9v hc
      | exact absurd hlen hc
      | exact e_done rfl rfl [] (PSub.take [] rfl) ⟨congrArg Value.bool (decide_eq_true hst), rfl⟩
end Go.Proofs.Ytoknjpmlloikhaa
