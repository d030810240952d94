/- What Check says of a program that is right, function by function, block by block. -/
import Derived.Test.YtoknjpmlloikhaaS28
namespace Go.Proofs.Ytoknjpmlloikhaa
set_option linter.unusedVariables false
set_option linter.unusedSimpArgs false
open Go Go.RowKit

def parsF (p : SsaProg) (f : Nat) : List Int := (nth (nth p.fFuncs.xs f).fBlocks.xs 0).fParams.xs
/-- What Check says of an instruction. -/
structure InsR (p : SsaProg) (i : SsaIns) : Prop where
  op : 1 ≤ i.fOp ∧ i.fOp ≤ 7
  dst : (i.fOp = 1 ∨ i.fOp = 2 ∨ i.fOp = 3 ∨ i.fOp = 5 ∨ i.fOp = 7 → 0 < i.fDst) ∧ (i.fOp = 4 ∨ i.fOp = 6 → i.fDst = 0)
  arr : i.fOp = 3 ∨ i.fOp = 4 ∨ i.fOp = 5 ∨ i.fOp = 6 → 0 ≤ i.fArr ∧ i.fArr < p.fArrays.xs.length
  n : (i.fOp = 1 ∨ i.fOp = 3 → i.fArgs.xs.length = 0) ∧ (i.fOp = 2 ∨ i.fOp = 6 → i.fArgs.xs.length = 2) ∧ (i.fOp = 4 ∨ i.fOp = 5 → i.fArgs.xs.length = 1)
  bin : i.fOp = 2 → 1 ≤ i.fBin ∧ i.fBin ≤ 15
  fn : i.fOp = 7 → 0 ≤ i.fFn ∧ i.fFn < p.fFuncs.xs.length ∧ 0 < (nth p.fFuncs.xs i.fFn.toNat).fBlocks.xs.length ∧ i.fArgs.xs.length = (parsF p i.fFn.toNat).length
theorem right_ins {p : SsaProg} {i : SsaIns} (h : rightB p i = true) : InsR p i := by
  unfold rightB shapeB at h
  by_cases h1 : i.fOp = 1
  · simp [h1] at h
    have hl : i.fArgs.xs.length = 0 := congrArg List.length h.1
    have h := h.2
    exact ⟨by omega, ⟨fun q => by omega, fun q => by omega⟩, fun q => by omega, ⟨fun q => by omega, fun q => by omega, fun q => by omega⟩, fun q => by omega, fun q => by omega⟩
  by_cases h2 : i.fOp = 2
  · simp [h2] at h
    exact ⟨by omega, ⟨fun q => by omega, fun q => by omega⟩, fun q => by omega, ⟨fun q => by omega, fun q => by omega, fun q => by omega⟩, fun q => by omega, fun q => by omega⟩
  by_cases h3 : i.fOp = 3
  · simp [h3] at h
    have hl : i.fArgs.xs.length = 0 := congrArg List.length h.1
    have h := h.2
    exact ⟨by omega, ⟨fun q => by omega, fun q => by omega⟩, fun q => by omega, ⟨fun q => by omega, fun q => by omega, fun q => by omega⟩, fun q => by omega, fun q => by omega⟩
  by_cases h4 : i.fOp = 4
  · simp [h4] at h
    exact ⟨by omega, ⟨fun q => by omega, fun q => by omega⟩, fun q => by omega, ⟨fun q => by omega, fun q => by omega, fun q => by omega⟩, fun q => by omega, fun q => by omega⟩
  by_cases h5 : i.fOp = 5
  · simp [h5] at h
    exact ⟨by omega, ⟨fun q => by omega, fun q => by omega⟩, fun q => by omega, ⟨fun q => by omega, fun q => by omega, fun q => by omega⟩, fun q => by omega, fun q => by omega⟩
  by_cases h6 : i.fOp = 6
  · simp [h6] at h
    exact ⟨by omega, ⟨fun q => by omega, fun q => by omega⟩, fun q => by omega, ⟨fun q => by omega, fun q => by omega, fun q => by omega⟩, fun q => by omega, fun q => by omega⟩
  by_cases h7 : i.fOp = 7
  · simp [h7] at h
    obtain ⟨a1, a2, a3, a4, a5, a6⟩ := h
    exact ⟨by omega, ⟨fun q => by omega, fun q => by omega⟩, fun q => by omega, ⟨fun q => by omega, fun q => by omega, fun q => by omega⟩, fun q => by omega, fun q => ⟨a3, a4, a5, a6⟩⟩
  simp [h1, h2, h3, h4, h5, h6, h7] at h
/-- What Check says of a program, function by function. -/
structure GoodP (p : SsaProg) : Prop where
  n0 : ∀ f, f < p.fFuncs.xs.length → 0 < (nth p.fFuncs.xs f).fBlocks.xs.length
  ends : ∀ f, f < p.fFuncs.xs.length → ∀ b, b < (nth p.fFuncs.xs f).fBlocks.xs.length → endsB (nth p.fFuncs.xs f) (nth (nth p.fFuncs.xs f).fBlocks.xs b).fEnd = true
  ins : ∀ f, f < p.fFuncs.xs.length → ∀ b, b < (nth p.fFuncs.xs f).fBlocks.xs.length → ∀ j, j < (nth (nth p.fFuncs.xs f).fBlocks.xs b).fIns.xs.length → InsR p (nth (nth (nth p.fFuncs.xs f).fBlocks.xs b).fIns.xs j)
  arr : ∀ i, i < p.fArrays.xs.length → arrB (nth p.fArrays.xs i) = true
theorem goodP_of {p : SsaProg} (h : checkB p = true) : GoodP p := by
  unfold checkB at h
  rw [Bool.and_eq_true, Bool.and_eq_true, List.all_eq_true, List.all_eq_true] at h
  obtain ⟨⟨h1, _⟩, h2⟩ := h
  have hf : ∀ f, f < p.fFuncs.xs.length → fnB p (nth p.fFuncs.xs f) = true := fun f hf => h2 _ (nth_mem hf)
  have hb : ∀ f, f < p.fFuncs.xs.length → 0 < (nth p.fFuncs.xs f).fBlocks.xs.length ∧ ∀ b, b < (nth p.fFuncs.xs f).fBlocks.xs.length → blkB p (nth p.fFuncs.xs f) (nth (nth p.fFuncs.xs f).fBlocks.xs b) = true := fun f hfn => by
    have := hf f hfn
    unfold fnB at this
    simp only [Bool.and_eq_true, decide_eq_true_eq, List.all_eq_true] at this
    exact ⟨this.1.1.1.1, fun b hb => this.1.2 _ (nth_mem hb)⟩
  refine ⟨fun f hfn => (hb f hfn).1, fun f hfn b hbn => ?_, fun f hfn b hbn j hj => ?_, fun i hi => h1 _ (nth_mem hi)⟩
  · have := (hb f hfn).2 b hbn
    unfold blkB at this
    rw [Bool.and_eq_true] at this
    exact this.1
  · have := (hb f hfn).2 b hbn
    unfold blkB at this
    rw [Bool.and_eq_true, List.all_eq_true] at this
    exact right_ins (this.2 _ (nth_mem hj))
theorem way_facts {f : SsaFunc} {e : SsaEnd} (h : endsB f e = true) {w : SsaEdge} (hw : w ∈ e.fWays.xs) : 1 ≤ w.fTo ∧ w.fTo < f.fBlocks.xs.length ∧ w.fArgs.xs.length = (nth f.fBlocks.xs w.fTo.toNat).fParams.xs.length := by
  unfold endsB at h
  rw [Bool.and_eq_true, List.all_eq_true] at h
  have := h.2 w hw
  unfold wayB at this
  simp only [Bool.and_eq_true, decide_eq_true_eq] at this
  exact ⟨this.1.1, this.1.2, this.2⟩
theorem par_made {f : SsaFunc} {b : Nat} (hb : b < f.fBlocks.xs.length) : ∀ v ∈ (nth f.fBlocks.xs b).fParams.xs, v ∈ madeAll f.fBlocks.xs := fun v hv => List.mem_flatMap.2 ⟨_, nth_mem hb, List.mem_append_left _ hv⟩
theorem dst_made {f : SsaFunc} {b j : Nat} (hb : b < f.fBlocks.xs.length) (hj : j < (nth f.fBlocks.xs b).fIns.xs.length) (h0 : (nth (nth f.fBlocks.xs b).fIns.xs j).fDst ≠ 0) : (nth (nth f.fBlocks.xs b).fIns.xs j).fDst ∈ madeAll f.fBlocks.xs := by
  refine List.mem_flatMap.2 ⟨_, nth_mem hb, List.mem_append_right _ ?_⟩
  unfold dstsB7
  exact List.mem_filter.2 ⟨List.mem_map.2 ⟨_, nth_mem hj, rfl⟩, by simpa using h0⟩
end Go.Proofs.Ytoknjpmlloikhaa
