/- Layer 12: where no array is closed, plainly. -/
import Derived.Test.YtomhieglgfjloaaQ11
import Derived.Test.YtomhieglgfjloaaS27
namespace Go.Proofs.Ytomhieglgfjloaa
set_option linter.unusedVariables false
set_option linter.unusedSimpArgs false
open Go Go.RowKit

theorem nthI {l : List SsaIns} {i : Nat} : nth (l.map eI) i = eI (nth l i) := nth_mapE (e := eI) rfl
theorem nthW {l : List SsaEdge} {i : Nat} : nth (l.map eW) i = eW (nth l i) := nth_mapE (e := eW) rfl
theorem fewBkE {b b' : SsaBlock} (he : eB b' = eB b) (h : FewBk b) : FewBk b' := by
  have e1 : b'.fParams.xs = b.fParams.xs := by have q := congrArg (fun b => b.fParams.xs) he; exact q
  have e2 : b'.fIns.xs.map eI = b.fIns.xs.map eI := by have q := congrArg (fun b => b.fIns.xs) he; exact q
  have e3 : b'.fEnd.fWays.xs.map eW = b.fEnd.fWays.xs.map eW := by have q := congrArg (fun b => b.fEnd.fWays.xs) he; exact q
  have l2 : b'.fIns.xs.length = b.fIns.xs.length := by have := congrArg List.length e2; simpa using this
  have l3 : b'.fEnd.fWays.xs.length = b.fEnd.fWays.xs.length := by have := congrArg List.length e3; simpa using this
  refine ⟨by rw [e1]; exact h.p, by rw [l2]; exact h.i, by rw [l3]; exact h.w, fun m hm => ?_, fun m hm => ?_⟩
  · have e : eI (nth b'.fIns.xs m) = eI (nth b.fIns.xs m) := by rw [← nthI, ← nthI, e2]
    have e : (nth b'.fIns.xs m).fArgs.xs = (nth b.fIns.xs m).fArgs.xs := by have q := congrArg (fun i => i.fArgs.xs) e; exact q
    rw [e]; exact h.ia m (by omega)
  · have e : eW (nth b'.fEnd.fWays.xs m) = eW (nth b.fEnd.fWays.xs m) := by rw [← nthW, ← nthW, e3]
    have e : (nth b'.fEnd.fWays.xs m).fArgs.xs = (nth b.fEnd.fWays.xs m).fArgs.xs := by have q := congrArg (fun i => i.fArgs.xs) e; exact q
    rw [e]; exact h.wa m (by omega)
theorem fewFnE {f f' : SsaFunc} (he : eF f' = eF f) (h : FewFn f) : FewFn f' := by
  have l : f'.fBlocks.xs.length = f.fBlocks.xs.length := by rw [← lenE (f := f'), he, lenE]
  refine ⟨by rw [l]; exact h.b, fun m hm => fewBkE ?_ (h.k m (by omega))⟩
  rw [← blkAt, ← blkAt, he]
/-- A program whose arrays were turned. -/
def withA (p : SsaProg) (al : List SsaArray) : SsaProg := ⟨⟨p.fArrays.A, p.fArrays.c, al⟩, p.fFuncs, p.fMain⟩
theorem withA_few {p c : SsaProg} {al : List SsaArray} (he : eP c = eP p) (hl : al.length = c.fArrays.xs.length) (h : FewPr p) : FewPr (withA c al) := by
  have e1 : c.fArrays.xs = p.fArrays.xs := by have q := congrArg (fun p => p.fArrays.xs) he; exact q
  have e2 : c.fFuncs.xs.map eF = p.fFuncs.xs.map eF := by have q := congrArg (fun p => p.fFuncs.xs) he; exact q
  have e3 : c.fFuncs.xs.length = p.fFuncs.xs.length := by have := congrArg List.length e2; simpa using this
  have ha := h.a
  have hf := h.f
  refine ⟨?_, ?_, fun m hm => ?_⟩
  · show al.length ≤ 10
    rw [hl, e1]; exact ha
  · show c.fFuncs.xs.length ≤ 5
    omega
  · show FewFn (nth c.fFuncs.xs m)
    have hm : m < c.fFuncs.xs.length := hm
    refine fewFnE ?_ (h.k m (by omega))
    rw [← nthF, ← nthF, e2]
theorem nth_outE {α : Type} [Enc α] {l : List α} {i : Nat} (h : l.length ≤ i) : nth l i = Enc.dflt := by
  unfold nth
  rw [List.getD_eq_getElem?_getD, List.getElem?_eq_none h]; rfl
theorem sizesA {l al : List SsaArray} (hl : al.length = l.length) (hs : ∀ j, j < l.length → (nth al j).fSize = (nth l j).fSize) (j : Nat) : (nth al j).fSize = (nth l j).fSize := by
  by_cases h : j < l.length
  · exact hs j h
  · rw [nth_outE (by omega), nth_outE (by omega)]
theorem rightA {p : SsaProg} {al : List SsaArray} (hl : al.length = p.fArrays.xs.length) (hs : ∀ j, j < p.fArrays.xs.length → (nth al j).fSize = (nth p.fArrays.xs j).fSize) {i : SsaIns} : rightB (withA p al) i = rightB p i := by
  unfold rightB withA
  dsimp only
  rw [hl]
  simp only [sizesA hl hs]
theorem withA_check {p : SsaProg} {al : List SsaArray} (hl : al.length = p.fArrays.xs.length) (hs : ∀ j, j < p.fArrays.xs.length → (nth al j).fSize = (nth p.fArrays.xs j).fSize) (ha : ∀ a ∈ al, arrB a = true) (h : checkB p = true) : checkB (withA p al) = true := by
  have hr : rightB (withA p al) = rightB p := funext fun i => rightA hl hs
  have hb : ∀ f b, blkB (withA p al) f b = blkB p f b := fun f b => by unfold blkB; rw [hr]
  have hf : fnB (withA p al) = fnB p := funext fun f => by unfold fnB; rw [show blkB (withA p al) f = blkB p f from funext fun b => hb f b]
  unfold checkB at h ⊢
  rw [hf]
  simp only [Bool.and_eq_true] at h ⊢
  exact ⟨⟨List.all_eq_true.2 ha, h.1.2⟩, h.2⟩
theorem withA_copy {p c : SsaProg} {al : List SsaArray} (he : eP c = eP p) : eP (withA c al) = eP (withA p al) := by
  have e2 : c.fFuncs.xs.map eF = p.fFuncs.xs.map eF := by have q := congrArg (fun p => p.fFuncs.xs) he; exact q
  have e3 : c.fMain = p.fMain := by have q := congrArg SsaProg.fMain he; exact q
  show (⟨⟨none, 0, al⟩, ⟨none, 0, c.fFuncs.xs.map eF⟩, c.fMain⟩ : SsaProg) = ⟨⟨none, 0, al⟩, ⟨none, 0, p.fFuncs.xs.map eF⟩, p.fMain⟩
  rw [e2, e3]
theorem withA_rd {ok ok' : FP} {w w' : World} {g : FP} {s' s : SsaProg} (h : (progP s').sat w g) (hok : ∀ b, g b → ok b) (ha : ∀ x ∈ s'.fArrays.xs, wfi x.fHold ∧ wfi x.fSize) (he : s'.fFuncs.xs.map eF = s.fFuncs.xs.map eF) (hm : s'.fMain = s.fMain) (hr : Dp.rd ok' w' s) : Dp.rd ok w s' := by
  obtain ⟨g0, h0, k0⟩ := star_at h (i := 0) rfl
  obtain ⟨g1, h1, k1⟩ := star_at h (i := 1) rfl
  obtain ⟨g2, h2, k2⟩ := star_at h (i := 2) rfl
  obtain ⟨r1, r2, r3⟩ := hr
  refine ⟨(own_rd h0 (fun b hb => hok b (k0 b hb)) fun x hx => ?_).h, (own_rd h1 (fun b hb => hok b (k1 b hb)) fun x hx => ?_).h, ?_⟩
  · exact ⟨trivial, ha x hx⟩
  · obtain ⟨g3, h3, k3⟩ := star_mem h2 hx
    obtain ⟨y, hy, e⟩ := map_mate he hx
    exact funP.rd h3 (fun b hb => hok b (k2 b (k3 b hb))) trivial e (r2.2 y hy)
  · rw [hm]; exact r3

/-- Nothing of these comes from memory. -/
def noMem (is : List SsaIns) : Prop := ∀ i ∈ is, i.fOp ≠ 5 ∧ i.fOp ≠ 3
def noMemF (f : SsaFunc) : Prop := ∀ b, b < f.fBlocks.xs.length → noMem (nth f.fBlocks.xs b).fIns.xs
/-- Values up to m, all else Public. -/
def upL (m : Int) : Lb := fun g => if g.1 = 0 then m else 0
theorem up_v {m : Int} {f : Nat} {v : Int} : upL m (0, f, v) = m := rfl
theorem fold_upL {L : Int → Int} {M : Int} (h : ∀ v, L v ≤ M) : ∀ {xs : List Int} {m : Int}, m ≤ M → xs.foldl (fun m v => max m (L v)) m ≤ M
  | [], _, hm => hm
  | x :: xs, m, hm => fold_upL h (xs := xs) (by have := h x; show max m (L x) ≤ M; omega)
theorem of_up {m : Int} (hm : 0 ≤ m) {f : Nat} {xs : List Int} : ofE f xs (upL m) ≤ m := fold_upL (fun _ => Int.le_refl _) hm
theorem stays_up {x m : Int} (h : x ≤ m) (h1 : m ≤ 1) : stays x ≤ 0 := by unfold stays; split <;> omega
theorem up_I {p : SsaProg} {W : List Bool} {f : Nat} {i : SsaIns} {m : Int} (h0 : 0 ≤ m) (h1 : m ≤ 1) (hm : m = 0 → i.fOp ≠ 5 ∧ i.fOp ≠ 3) : ∀ q ∈ rqI p C0 W f i, q.e (upL m) ≤ upL m q.g := by
  intro q hq
  unfold rqI at hq
  split at hq
  · rw [List.mem_singleton] at hq
    rw [hq, rqV0_e]
    exact h0
  split at hq
  · rw [List.mem_singleton] at hq
    rw [hq, rqV0_e]
    exact of_up h0
  split at hq
  · rename_i h35
    rw [List.mem_singleton] at hq
    rw [hq, rqV0_e]
    have h3 := of_up h0 (f := f) (xs := i.fArgs.xs)
    have h4 := mayL_in (W := W) (i := i)
    show max (max 0 (ofE f i.fArgs.xs (upL m))) (mayL W i) ≤ m
    by_cases hz : m = 0
    · have := hm hz; omega
    · omega
  split at hq
  · rw [List.mem_singleton] at hq
    rw [hq]
    exact stays_up (of_up h0) h1
  split at hq
  · rw [List.mem_singleton] at hq
    rw [hq]
    exact stays_up (Int.le_refl m) h1
  split at hq
  · rcases List.mem_append.1 hq with hq | hq
    · unfold callR at hq
      obtain ⟨k, _, rfl⟩ := List.mem_map.1 hq
      rw [rqV0_e]
      exact stays_le
    · rw [List.mem_singleton] at hq
      rw [hq, rqV0_e]
      exact h0
  · cases hq
theorem up_P {p : SsaProg} {W : List Bool} {n : Nat} {m : Int} (h0 : 0 ≤ m) (h1 : m ≤ 1) (hm : m = 0 → ∀ f, f < n → noMemF (nth p.fFuncs.xs f)) : ∀ q ∈ rqP p C0 W n, q.e (upL m) ≤ upL m q.g := by
  intro q hq
  unfold rqP rqF at hq
  obtain ⟨f, hf, hq⟩ := List.mem_flatMap.1 hq
  obtain ⟨b, hb, hq⟩ := List.mem_flatMap.1 hq
  have hf := List.mem_range.1 hf
  have hb := List.mem_range.1 hb
  split at hq
  · unfold rqB at hq
    rcases List.mem_append.1 hq with hq | hq
    · rcases List.mem_append.1 hq with hq | hq
      · obtain ⟨i, hi, hq⟩ := List.mem_flatMap.1 hq
        exact up_I h0 h1 (fun hz => hm hz f hf b hb i hi) q hq
      · obtain ⟨w, _, hq⟩ := List.mem_flatMap.1 hq
        unfold rqW wayR at hq
        obtain ⟨k, _, rfl⟩ := List.mem_map.1 hq
        rw [rqV0_e]
        exact Int.le_refl m
    · unfold rqE at hq
      split at hq
      · rw [List.mem_singleton] at hq
        rw [hq]
        exact stays_up (Int.le_refl m) h1
      · cases hq
  · cases hq
/-- Where no array is closed: at most m. -/
theorem plain_all {p : SsaProg} {C : Nat → Int → Bool} {s : LSt} {m : Int} (h : Labd p C s) (hb : ∀ a ∈ p.fArrays.xs, a.fHold = 1) (h0 : 0 ≤ m) (h1 : m ≤ 1) (hm : m = 0 → ∀ f, f < p.fFuncs.xs.length → noMemF (nth p.fFuncs.xs f)) (g : Tgt) : labL s g ≤ upL m g := by
  refine h.least _ (closed_iff.2 fun q hq => ?_) (fun g => ?_) g
  · have := up_P h0 h1 hm q hq
    refine Int.le_trans ?_ this
    unfold asks
    split
    · exact stays_le
    · exact Int.le_refl _
  · unfold baseL
    split
    · rename_i hc
      have := hb _ (nth_mem hc.2.2.1)
      omega
    · unfold upL; split <;> omega
end Go.Proofs.Ytomhieglgfjloaa
