/- Layer 8: steps of the innermost call, whatever calls there are around it (plainly). -/
import Derived.Test.YtoknjpmlloikhaaR11
namespace Go.Proofs.Ytoknjpmlloikhaa
set_option linter.unusedVariables false
set_option linter.unusedSimpArgs false
open Go Go.RowKit

section
variable {p : SsaProg} {m : Mch} {base : List Frm} {f f2 g : Frm}
theorem app_len : (base ++ [f]).length = base.length + 1 := by rw [List.length_append]; rfl
theorem topM_app (h : m.fs = base ++ [f]) : topM m = some f := by
  unfold topM; rw [h, app_len]; simp
theorem top_app (h : m.fs = base ++ [f]) : m.top f2 = { m with fs := base ++ [f2] } := by
  unfold Mch.top; rw [h, app_len, Nat.add_sub_cancel]; simp
theorem frmN_app_last (h : m.fs = base ++ [f]) : frmN m.fs (m.fs.length - 1) = f := by
  rw [h, app_len, Nat.add_sub_cancel, frmN_last]
/-- A step within a block. -/
theorem step_ins (h : m.fs = base ++ [f]) (hat : ¬ f.at_ = (nth (nth p.fFuncs.xs f.fn).fBlocks.xs f.block).fIns.xs.length) : stepM p m = doI p { m with fs := base ++ [{ f with at_ := f.at_ + 1 }] } { f with at_ := f.at_ + 1 } (nth (nth (nth p.fFuncs.xs f.fn).fBlocks.xs f.block).fIns.xs f.at_) := by
  unfold stepM
  rw [topM_app h]
  dsimp only
  rw [if_neg hat, top_app h]
/-- A step at a block's end. -/
theorem step_end (h : m.fs = base ++ [f]) (hat : f.at_ = (nth (nth p.fFuncs.xs f.fn).fBlocks.xs f.block).fIns.xs.length) : stepM p m = some (finishM p m f (nth (nth p.fFuncs.xs f.fn).fBlocks.xs f.block).fEnd) := by
  unfold stepM
  rw [topM_app h]
  dsimp only
  rw [if_pos hat]
theorem wayM_app {e : SsaEnd} {w : Nat} (h : m.fs = base ++ [f]) : wayM p m f e w = { m with fs := base ++ [{ f with block := (nth e.fWays.xs w).fTo.toNat, at_ := 0, vals := putAll (nth (nth p.fFuncs.xs f.fn).fBlocks.xs (nth e.fWays.xs w).fTo.toNat).fParams.xs ((nth e.fWays.xs w).fArgs.xs.map (getV f.vals)) f.vals }] } := by
  unfold wayM; exact top_app h
theorem leaveM_app {v : Int} (h : m.fs = base ++ [g] ++ [f]) : leaveM m f v = { m with fs := base ++ [{ g with vals := putF g.vals f.dst v }] } := by
  unfold leaveM
  rw [if_neg (by rw [h, app_len, app_len]; omega)]
  have e : m.fs.take (m.fs.length - 1) = base ++ [g] := by rw [h, app_len, Nat.add_sub_cancel]; exact List.take_left
  simp only [e]
  rw [app_len, Nat.add_sub_cancel]
  simp
theorem leaveM_nil {v : Int} (h : m.fs = [f]) : leaveM m f v = { m with fs := [], val := v, fin := true } := by
  unfold leaveM; rw [if_pos (by rw [h]; exact Nat.le_refl _)]
theorem enterM_app {fn : Nat} {as' : List Int} {d : Int} (h : m.fs = base ++ [f]) (hl : base.length + 1 < 2000) : enterM p m fn as' d = some { m with fs := base ++ [f] ++ [⟨fn, 0, 0, putAll (parsF p fn) as' fun _ => none, d⟩], deep := max m.deep (base.length + 2) } := by
  unfold enterM
  rw [if_neg (by rw [h, app_len]; omega), h, app_len]
theorem enterM_full {fn : Nat} {as' : List Int} {d : Int} (h : m.fs = base ++ [f]) (hl : 2000 ≤ base.length + 1) : enterM p m fn as' d = none := by
  unfold enterM
  rw [if_pos (by rw [h, app_len]; omega)]
end
theorem goM_step' {p : SsaProg} {m m1 m2 : Mch} {k : Nat} (hf : m.fin = false) (h : stepM p { m with steps := m.steps + 1 } = some m1) (h2 : goM p k m1 = some m2) : goM p (k + 1) m = some m2 := by
  unfold goM
  rw [if_neg (by rw [hf]; decide), h]
  exact h2
/-- Too many calls: there's no end. -/
theorem runM_none {p : SsaProg} {fuel : Int} : ∀ {k n : Nat} {m m1 : Mch}, goM p k m = some m1 → m1.fin = false → stepM p { m1 with steps := m1.steps + 1 } = none → runM p fuel n m = .spent
  | _, 0, m, m1, _, _, _ => rfl
  | 0, n + 1, m, m1, h, hf, h1 => by
    cases h
    unfold runM
    rw [if_neg (by rw [hf]; decide), h1]
    split <;> rfl
  | k + 1, n + 1, m, m1, h, hf, h1 => by
    unfold goM at h
    split at h
    · cases h
    rename_i h0
    obtain ⟨m2, h2, h3⟩ := Option.bind_eq_some_iff.1 h
    unfold runM
    rw [if_neg h0, h2]
    dsimp only
    rw [runM_none h3 hf h1]
    split <;> rfl
end Go.Proofs.Ytoknjpmlloikhaa
