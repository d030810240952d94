/- Layer 8: one instruction of the law's own call and the machine (plainly). -/
import Derived.Test.YtoknjpmlloikhaaR18
namespace Go.Proofs.Ytoknjpmlloikhaa
set_option linter.unusedVariables false
set_option linter.unusedSimpArgs false
open Go Go.RowKit

def nxF (f : Frm) (v : Int → Option Int) : Frm := { f with at_ := f.at_ + 1, vals := v }
def mS (M : Mch) (base : List Frm) (f : Frm) : Mch := { M with steps := M.steps + 1, fs := base ++ [nxF f f.vals] }
/-- An instruction is done. -/
def upM (M : Mch) (base : List Frm) (f : Frm) (lk : List ApiLeak) (mem : List (List Int)) (v : Int → Option Int) : Mch := { M with steps := M.steps + 1, leaks := lk, mem := mem, fs := base ++ [nxF f v] }
def insF (p : SsaProg) (f : Frm) : SsaIns := nth (nth (nth p.fFuncs.xs f.fn).fBlocks.xs f.block).fIns.xs f.at_
def insN (p : SsaProg) (f : Frm) : Nat := (nth (nth p.fFuncs.xs f.fn).fBlocks.xs f.block).fIns.xs.length
section
variable {p : SsaProg} {F : Nat} {M0 M M2 : Mch} {base : List Frm} {fn : Nat} {dst : Int} {f f2 : Frm} {i : SsaIns}
theorem RunS.stepI (h : RunS p F M0 base fn dst M f) (hat : f.at_ < insN p f) : stepM p { M with steps := M.steps + 1 } = doI p (mS M base f) (nxF f f.vals) (insF p f) :=
  step_ins (m := { M with steps := M.steps + 1 }) h.fs (Nat.ne_of_lt hat)
theorem RunS.up (h : RunS p F M0 base fn dst M f) (hG : GoodP p) (hW : WfP p) (hlt : M.steps < F) (hat : f.at_ < insN p f) {lk : List ApiLeak} {mem : List (List Int)} {v : Int → Option Int} (hd : doI p (mS M base f) (nxF f f.vals) (insF p f) = some (upM M base f lk mem v)) : RunS p F M0 base fn dst (upM M base f lk mem v) (nxF f v) :=
  h.step hG hW hlt ((h.stepI hat).trans hd) rfl rfl rfl h.fin h.trap h.val
theorem mS_top {m : Mch} {v : Int → Option Int} (h : m.fs = base ++ [nxF f f.vals]) : m.top { nxF f f.vals with vals := v } = { m with fs := base ++ [nxF f v] } := top_app h
theorem do_const (h : i.fOp = 1) : doI p (mS M base f) (nxF f f.vals) i = some (upM M base f M.leaks M.mem (putF f.vals i.fDst i.fNum)) := by
  unfold doI
  rw [if_pos h, mS_top rfl]
  rfl
theorem do_bin (h : i.fOp = 2) {x y : Int} {z : Int × Bool} (hx : nth (i.fArgs.xs.map (getV f.vals)) 0 = x) (hy : nth (i.fArgs.xs.map (getV f.vals)) 1 = y) (hz : doW i.fBin x y = z) (h2 : z.2 = true) : doI p (mS M base f) (nxF f f.vals) i = some (upM M base f (if divides i.fBin then M.leaks ++ [⟨3, x, y⟩] else M.leaks) M.mem (putF f.vals i.fDst z.1)) := by
  have hx' : nth (i.fArgs.xs.map (getV (nxF f f.vals).vals)) 0 = x := hx
  have hy' : nth (i.fArgs.xs.map (getV (nxF f f.vals).vals)) 1 = y := hy
  unfold doI
  dsimp only
  rw [if_neg (by omega), if_pos h, hx', hy', hz, if_pos h2]
  split
  · rw [mS_top rfl]; rfl
  · rw [mS_top rfl]; rfl
theorem do_binN (h : i.fOp = 2) {x y : Int} {z : Int × Bool} (hx : nth (i.fArgs.xs.map (getV f.vals)) 0 = x) (hy : nth (i.fArgs.xs.map (getV f.vals)) 1 = y) (hz : doW i.fBin x y = z) (h2 : z.2 = false) : doI p (mS M base f) (nxF f f.vals) i = some ((upM M base f (if divides i.fBin then M.leaks ++ [⟨3, x, y⟩] else M.leaks) M.mem (putF f.vals i.fDst z.1)).stop 2) := by
  have hx' : nth (i.fArgs.xs.map (getV (nxF f f.vals).vals)) 0 = x := hx
  have hy' : nth (i.fArgs.xs.map (getV (nxF f f.vals).vals)) 1 = y := hy
  unfold doI
  dsimp only
  rw [if_neg (by omega), if_pos h, hx', hy', hz, if_neg (by rw [h2]; decide)]
  split
  · rw [mS_top rfl]; rfl
  · rw [mS_top rfl]; rfl
theorem do_get (h : i.fOp = 3) : doI p (mS M base f) (nxF f f.vals) i = some (upM M base f M.leaks M.mem (putF f.vals i.fDst (nth (M.row i.fArr.toNat) 0))) := by
  unfold doI
  dsimp only
  rw [if_neg (by omega), if_neg (by omega), if_pos h, mS_top rfl]
  rfl
theorem do_set (h : i.fOp = 4) {x : Int} (hx : nth (i.fArgs.xs.map (getV f.vals)) 0 = x) : doI p (mS M base f) (nxF f f.vals) i = some (upM M base f M.leaks (M.mem.set i.fArr.toNat ((M.row i.fArr.toNat).set 0 x)) f.vals) := by
  have hx' : nth (i.fArgs.xs.map (getV (nxF f f.vals).vals)) 0 = x := hx
  unfold doI
  dsimp only
  rw [if_neg (by omega), if_neg (by omega), if_neg (by omega), if_pos h, hx']
  rfl
theorem do_load (h : i.fOp = 5) {x : Int} (hx : nth (i.fArgs.xs.map (getV f.vals)) 0 = x) (hin : 0 ≤ x ∧ x < ((M.row i.fArr.toNat).length : Int)) : doI p (mS M base f) (nxF f f.vals) i = some (upM M base f (M.leaks ++ [⟨2, x, 0⟩]) M.mem (putF f.vals i.fDst (nth (M.row i.fArr.toNat) x.toNat))) := by
  have hx' : nth (i.fArgs.xs.map (getV (nxF f f.vals).vals)) 0 = x := hx
  unfold doI
  dsimp only
  rw [if_neg (by omega), if_neg (by omega), if_neg (by omega), if_neg (by omega), if_pos h, hx']
  rw [if_pos (show 0 ≤ x ∧ x < (((mS M base f).row i.fArr.toNat).length : Int) from hin), mS_top rfl]
  rfl
theorem do_store (h : i.fOp = 6) {x y : Int} (hx : nth (i.fArgs.xs.map (getV f.vals)) 0 = x) (hy : nth (i.fArgs.xs.map (getV f.vals)) 1 = y) (hin : 0 ≤ x ∧ x < ((M.row i.fArr.toNat).length : Int)) : doI p (mS M base f) (nxF f f.vals) i = some (upM M base f (M.leaks ++ [⟨2, x, 0⟩]) (M.mem.set i.fArr.toNat ((M.row i.fArr.toNat).set x.toNat y)) f.vals) := by
  have hx' : nth (i.fArgs.xs.map (getV (nxF f f.vals).vals)) 0 = x := hx
  have hy' : nth (i.fArgs.xs.map (getV (nxF f f.vals).vals)) 1 = y := hy
  unfold doI
  dsimp only
  rw [if_neg (by omega), if_neg (by omega), if_neg (by omega), if_neg (by omega), if_neg (by omega), if_pos h, hx', hy']
  rw [if_pos (show 0 ≤ x ∧ x < (((mS M base f).row i.fArr.toNat).length : Int) from hin)]
  rfl
theorem do_wild (h : i.fOp = 5 ∨ i.fOp = 6) {x : Int} (hx : nth (i.fArgs.xs.map (getV f.vals)) 0 = x) (hin : ¬ (0 ≤ x ∧ x < ((M.row i.fArr.toNat).length : Int))) : doI p (mS M base f) (nxF f f.vals) i = some ((upM M base f (M.leaks ++ [⟨2, x, 0⟩]) M.mem f.vals).stop 4) := by
  have hx' : nth (i.fArgs.xs.map (getV (nxF f f.vals).vals)) 0 = x := hx
  unfold doI
  dsimp only
  rw [if_neg (by omega), if_neg (by omega), if_neg (by omega), if_neg (by omega), hx']
  rcases h with h | h
  · rw [if_pos h, if_neg (show ¬ (0 ≤ x ∧ x < (((mS M base f).row i.fArr.toNat).length : Int)) from hin)]
    rfl
  · rw [if_neg (by omega), if_pos h, if_neg (show ¬ (0 ≤ x ∧ x < (((mS M base f).row i.fArr.toNat).length : Int)) from hin)]
    rfl
/-- .. a call. -/
def inM (p : SsaProg) (M : Mch) (base : List Frm) (f : Frm) (i : SsaIns) : Mch := { mS M base f with fs := base ++ [nxF f f.vals] ++ [⟨i.fFn.toNat, 0, 0, putAll (parsF p i.fFn.toNat) (i.fArgs.xs.map (getV f.vals)) fun _ => none, i.fDst⟩], deep := max M.deep (base.length + 2) }
theorem do_call (h : i.fOp = 7) (hl : base.length + 1 < 2000) : doI p (mS M base f) (nxF f f.vals) i = some (inM p M base f i) := by
  unfold doI
  dsimp only
  rw [if_neg (by omega), if_neg (by omega), if_neg (by omega), if_neg (by omega), if_neg (by omega), if_neg (by omega), if_pos h]
  exact enterM_app (m := mS M base f) rfl hl
theorem RunS.trapI (h : RunS p F M0 base fn dst M f) (hG : GoodP p) (hW : WfP p) (hlt : M.steps < F) (hat : f.at_ < insN p f) {lk : List ApiLeak} {v : Int → Option Int} {t left : Int} (hd : doI p (mS M base f) (nxF f f.vals) (insF p f) = some ((upM M base f lk M.mem v).stop t)) (hl : left = (F : Int) - (M.steps + 1)) : OwnR p F M0 base dst 0 false M.mem lk left t false :=
  h.trapped (M2 := (upM M base f lk M.mem v).stop t) hG hW hlt ((h.stepI hat).trans hd) rfl rfl h.val hl
/-- A call that came back: on from there. -/
theorem RunS.called (h : RunS p F M0 base fn dst M f) (hG : GoodP p) (hW : WfP p) (hlt : M.steps < F) (hat : f.at_ < insN p f) (h7 : (insF p f).fOp = 7) (hl : base.length + 1 < 2000) {z : Int} {mem : List (List Int)} {leaks : List ApiLeak} {left trap : Int} {sp : Bool} (hr : OwnR p F (inM p M base f (insF p f)) (base ++ [nxF f f.vals]) (insF p f).fDst z true mem leaks left trap sp) :
    ∃ M2, RunS p F M0 base fn dst M2 (nxF f (putF f.vals (insF p f).fDst z)) ∧ M2.mem = mem ∧ M2.leaks = leaks ∧ left = (F : Int) - M2.steps ∧ trap = 0 ∧ sp = false ∧ M.steps < M2.steps := by
  have h1 : stepM p { M with steps := M.steps + 1 } = some (inM p M base f (insF p f)) := (h.stepI hat).trans (do_call h7 hl)
  obtain ⟨⟨k1, e1⟩, e2, e3⟩ := h.any hG hW h1
  rcases hr with ⟨_, r2, r3, M2, ⟨k, r4⟩, r5, r6, r7, r8, r9, r10, r11⟩ | ⟨r1, _⟩ | ⟨r1, _⟩
  · have hs := goM_steps r4
    rcases r11 with ⟨r11, _⟩ | ⟨B, g, r11, r12, r13, r14⟩
    · exact absurd r11 (by simp)
    · obtain ⟨q1, q2⟩ := List.append_inj' r11 rfl
      subst q1
      have q2 : nxF f f.vals = g := by simpa using q2
      subst q2
      refine ⟨M2, ⟨⟨k1 + k, goM_add e1 r4⟩, r5, r12, h.fn, h.dst, r13, r10, r14, r9⟩, r6, r7, r8, r3, r2, by omega⟩
  · cases r1
  · cases r1
theorem RunS.callEnd (h : RunS p F M0 base fn dst M f) (hG : GoodP p) (hW : WfP p) (hlt : M.steps < F) (hat : f.at_ < insN p f) (h7 : (insF p f).fOp = 7) (hl : base.length + 1 < 2000) {z : Int} {mem : List (List Int)} {leaks : List ApiLeak} {left trap : Int} {sp : Bool} (hr : OwnR p F (inM p M base f (insF p f)) (base ++ [nxF f f.vals]) (insF p f).fDst z false mem leaks left trap sp) :
    OwnR p F M0 base dst 0 false mem leaks left trap sp := by
  have h1 : stepM p { M with steps := M.steps + 1 } = some (inM p M base f (insF p f)) := (h.stepI hat).trans (do_call h7 hl)
  obtain ⟨⟨k1, e1⟩, e2, e3⟩ := h.any hG hW h1
  rcases hr with ⟨r1, _⟩ | ⟨_, r1, r2, M2, ⟨k, r4⟩, r5⟩ | ⟨_, r1, M2, ⟨k, r4⟩, r5⟩
  · cases r1
  · exact .inr (.inl ⟨rfl, rfl, r2, M2, ⟨k1 + k, goM_add e1 r4⟩, r5⟩)
  · exact .inr (.inr ⟨rfl, r1, M2, ⟨k1 + k, goM_add e1 r4⟩, r5⟩)
/-- .. a way. -/
def wayF (p : SsaProg) (f : Frm) (e : SsaEnd) (w : Nat) : Frm := { f with block := (nth e.fWays.xs w).fTo.toNat, at_ := 0, vals := putAll (nth (nth p.fFuncs.xs f.fn).fBlocks.xs (nth e.fWays.xs w).fTo.toNat).fParams.xs ((nth e.fWays.xs w).fArgs.xs.map (getV f.vals)) f.vals }
def gone (M : Mch) (base : List Frm) (lk : List ApiLeak) (f2 : Frm) : Mch := { M with steps := M.steps + 1, leaks := lk, fs := base ++ [f2] }
theorem RunS.way {e : SsaEnd} {w : Nat} {lk : List ApiLeak} (h : RunS p F M0 base fn dst M f) (hG : GoodP p) (hW : WfP p) (hlt : M.steps < F) (hat : f.at_ = insN p f) (he : e = (nth (nth p.fFuncs.xs f.fn).fBlocks.xs f.block).fEnd)
    (hw : (e.fKind = 1 ∧ w = 0 ∧ lk = M.leaks) ∨ (e.fKind = 2 ∧ w = (1 - if getV f.vals e.fVal ≠ 0 then 1 else 0 : Int).toNat ∧ lk = M.leaks ++ [⟨1, if getV f.vals e.fVal ≠ 0 then 1 else 0, 0⟩])) : RunS p F M0 base fn dst (gone M base lk (wayF p f e w)) (wayF p f e w) := by
  subst he
  refine h.step hG hW hlt (M2 := gone M base lk (wayF p f _ w)) ?_ rfl rfl rfl h.fin h.trap h.val
  rw [step_end (m := { M with steps := M.steps + 1 }) h.fs hat]
  congr 1
  unfold finishM
  rcases hw with ⟨h1, rfl, rfl⟩ | ⟨h1, rfl, rfl⟩
  · rw [if_neg (by omega), if_neg (by omega), if_neg (by omega), wayM_app (m := { M with steps := M.steps + 1 }) h.fs]
    rfl
  · rw [if_neg (by omega), if_neg (by omega), if_pos h1]
    dsimp only
    rw [wayM_app (base := base) (show (Mch.leak { M with steps := M.steps + 1 } _).fs = base ++ [f] from h.fs)]
    rfl
theorem RunS.endTrap {e : SsaEnd} {left : Int} (h : RunS p F M0 base fn dst M f) (hG : GoodP p) (hW : WfP p) (hlt : M.steps < F) (hat : f.at_ = insN p f) (he : e = (nth (nth p.fFuncs.xs f.fn).fBlocks.xs f.block).fEnd) (hk : e.fKind = 4) (hl : left = (F : Int) - (M.steps + 1)) : OwnR p F M0 base dst 0 false M.mem M.leaks left e.fTrap false := by
  subst he
  refine h.trapped (M2 := Mch.stop { M with steps := M.steps + 1 } _) hG hW hlt ?_ rfl rfl h.val hl
  rw [step_end (m := { M with steps := M.steps + 1 }) h.fs hat]
  unfold finishM
  rw [if_neg (by omega), if_pos hk]
end
end Go.Proofs.Ytoknjpmlloikhaa
