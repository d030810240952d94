/- Layer 12: what a program asks for; that it is all in its bounds, plainly. -/
import Derived.Test.YtomhieglgfjloaaQ7
namespace Go.Proofs.Ytomhieglgfjloaa
set_option linter.unusedVariables false
set_option linter.unusedSimpArgs false
open Go Go.RowKit

section
variable {P : Program} {w0 : World} {f0 : FP} {L : List HP} {f : Fr} {α : Type} {I : Enc α} {e : TypeId} {put : HP → List HP}
/-- One result lies in a block, the other doesn't. -/
theorem e_doneCT {fn : Func} {RR : Value → List HP → Prop} {t u : Tmp} {tt : TypeId} {q b : Nat} {x : α} (hr : fn.results = #[.cell t tt, .tmp u]) (ht : Nat.blt t fn.ntmps = true) (hu : Nat.blt u fn.ntmps = true) [hT : CA P tt q] (hx : f t = .pointer (some ⟨b, 0, none⟩)) [h : PcB L b (var (I := I) e b x) put] (hq : q = I.sz) (L' : List HP) (hL : PSub w0 f0 L L') (hR : RR (.tuple #[.agg (I.enc x).toArray, f u]) L') : sE w0 f0 (doneS P fn w0 f0 RR) .ret f L := by
  intro w H
  obtain ⟨i, hi, _⟩ := h.at_
  obtain ⟨g, hA, _⟩ := H.focus i hi
  have hl : (loadVar tt ⟨b, 0, none⟩).run P w = .ok (.agg (I.enc x).toArray) w := ldA hT.h (by rw [I.len, hq]) fun j v hj => by
    rw [add_spot rfl]
    show w.cell? ⟨b, 0 + j, none⟩ = some v
    rw [Nat.zero_add, blk.cell hA j]; exact hj
  unfold doneS
  refine ⟨_, fun a ha => ?_, L', hR, hL w H⟩
  have e1 : a.tmps[t]?.getD undef = .pointer (some ⟨b, 0, none⟩) := by
    rw [ha.at_ t (by rw [← Nat.blt_eq]; exact ht)]; exact hx
  have e2 : a.tmps[u]?.getD undef = f u := by
    rw [ha.at_ u (by rw [← Nat.blt_eq]; exact hu)]; rfl
  simp [results, hr, e1, e2, asAddr, hl]
end
def rqF (p : SsaProg) (C : Nat → Int → Bool) (W : List Bool) (f : Nat) (n : Nat) : List Rq := (List.range n).flatMap fun b => if nth (reachB7 (nth p.fFuncs.xs f)) b = true then rqB p C W f (nth (nth p.fFuncs.xs f).fBlocks.xs b) else []
def rqP (p : SsaProg) (C : Nat → Int → Bool) (W : List Bool) (n : Nat) : List Rq := (List.range n).flatMap fun f => rqF p C W f (nth p.fFuncs.xs f).fBlocks.xs.length
theorem rqF_succ {p : SsaProg} {C : Nat → Int → Bool} {W : List Bool} {f n : Nat} : rqF p C W f (n + 1) = rqF p C W f n ++ if nth (reachB7 (nth p.fFuncs.xs f)) n = true then rqB p C W f (nth (nth p.fFuncs.xs f).fBlocks.xs n) else [] := by
  unfold rqF
  rw [List.range_succ, List.flatMap_append]; simp
theorem rqP_succ {p : SsaProg} {C : Nat → Int → Bool} {W : List Bool} {n : Nat} : rqP p C W (n + 1) = rqP p C W n ++ rqF p C W n (nth p.fFuncs.xs n).fBlocks.xs.length := by
  unfold rqP
  rw [List.range_succ, List.flatMap_append]; simp
/-- What every request is like. -/
structure GoodQ (q : Rq) : Prop where
  m : MonoE q.e
  ub : ∀ L : Lb, (∀ g, L g ≤ 2) → q.e L ≤ 2
  ne : q.g.1 ≠ 0 → ∀ L, q.e L ≠ 1
theorem mono_at (g : Tgt) : MonoE fun L => L g := fun L L' h => h g
theorem mono_stays {e : Lb → Int} (h : MonoE e) : MonoE fun L => stays (e L) := fun L L' hl => stays_mono (h L L' hl)
theorem fold_mono {L L' : Int → Int} (h : ∀ v, L v ≤ L' v) : ∀ {xs : List Int} {m m' : Int}, m ≤ m' → xs.foldl (fun m v => max m (L v)) m ≤ xs.foldl (fun m v => max m (L' v)) m'
  | [], _, _, hm => hm
  | x :: xs, m, m', hm => fold_mono h (xs := xs) (by have := h x; show max m (L x) ≤ max m' (L' x); omega)
theorem mono_of (f : Nat) (xs : List Int) : MonoE (ofE f xs) := fun L L' h => fold_mono (fun v => h (0, f, v)) (Int.le_refl _)
theorem fold_ub {L : Int → Int} {M : Int} (h : ∀ v, L v ≤ M) : ∀ {xs : List Int} {m : Int}, m ≤ M → xs.foldl (fun m v => max m (L v)) m ≤ M
  | [], _, hm => hm
  | x :: xs, m, hm => fold_ub h (xs := xs) (by have := h x; show max m (L x) ≤ M; omega)
theorem ub_of (f : Nat) (xs : List Int) {L : Lb} (h : ∀ g, L g ≤ 2) : ofE f xs L ≤ 2 := fold_ub (fun v => h (0, f, v)) (by decide)
theorem stays_ub {x : Int} (h : x ≤ 2) : stays x ≤ 2 := by
  unfold stays; split <;> omega
theorem goodV {C : Nat → Int → Bool} {f : Nat} {v : Int} {e : Lb → Int} (hm : MonoE e) (hu : ∀ L : Lb, (∀ g, L g ≤ 2) → e L ≤ 2) : GoodQ (rqV C f v e) := by
  refine ⟨fun L L' h => ?_, fun L h => ?_, fun h => absurd rfl h⟩
  · show cutE C f v e L ≤ cutE C f v e L'
    unfold cutE
    split
    · exact stays_mono (hm L L' h)
    · exact hm L L' h
  · show cutE C f v e L ≤ 2
    unfold cutE
    split
    · exact stays_ub (hu L h)
    · exact hu L h
theorem goodI {p : SsaProg} {C : Nat → Int → Bool} {W : List Bool} {f : Nat} {i : SsaIns} : ∀ q ∈ rqI p C W f i, GoodQ q := by
  intro q hq
  unfold rqI at hq
  split at hq
  · rw [List.mem_singleton] at hq
    rw [hq]
    exact goodV (fun _ _ _ => Int.le_refl _) fun _ _ => (by decide : (0 : Int) ≤ 2)
  split at hq
  · rw [List.mem_singleton] at hq
    rw [hq]
    exact goodV (mono_of _ _) fun L h => ub_of _ _ h
  split at hq
  · rw [List.mem_singleton] at hq
    rw [hq]
    refine goodV (fun L L' h => ?_) fun L h => ?_
    · have h1 := h (1, i.fArr.toNat, 0)
      have h2 := mono_of f i.fArgs.xs L L' h
      show max (max (L _) (ofE _ _ L)) _ ≤ max (max (L' _) (ofE _ _ L')) _
      omega
    · have h1 := h (1, i.fArr.toNat, 0)
      have h2 := ub_of f i.fArgs.xs h
      have h3 := mayL_in (W := W) (i := i)
      show max (max (L _) (ofE _ _ L)) _ ≤ 2
      omega
  split at hq
  · rw [List.mem_singleton] at hq
    rw [hq]
    exact ⟨mono_stays (mono_of _ _), fun L h => stays_ub (ub_of _ _ h), fun _ L => stays_ne _⟩
  split at hq
  · rw [List.mem_singleton] at hq
    rw [hq]
    exact ⟨mono_stays (mono_at _), fun L h => stays_ub (h _), fun _ L => stays_ne _⟩
  split at hq
  · rcases List.mem_append.1 hq with hq | hq
    · unfold callR at hq
      obtain ⟨k, _, rfl⟩ := List.mem_map.1 hq
      exact goodV (mono_stays (mono_at _)) fun L h => stays_ub (h _)
    · rw [List.mem_singleton] at hq
      rw [hq]
      exact goodV (mono_at _) fun L h => h _
  · cases hq
theorem goodB {p : SsaProg} {C : Nat → Int → Bool} {W : List Bool} {f : Nat} {b : SsaBlock} : ∀ q ∈ rqB p C W f b, GoodQ q := by
  intro q hq
  unfold rqB at hq
  rcases List.mem_append.1 hq with hq | hq
  · rcases List.mem_append.1 hq with hq | hq
    · obtain ⟨i, _, hq⟩ := List.mem_flatMap.1 hq
      exact goodI q hq
    · obtain ⟨w, _, hq⟩ := List.mem_flatMap.1 hq
      unfold rqW wayR at hq
      obtain ⟨k, _, rfl⟩ := List.mem_map.1 hq
      exact goodV (mono_at _) fun L h => h _
  · unfold rqE at hq
    split at hq
    · rw [List.mem_singleton] at hq
      rw [hq]
      exact ⟨mono_stays (mono_at _), fun L h => stays_ub (h _), fun _ L => stays_ne _⟩
    · cases hq
theorem goodP {p : SsaProg} {C : Nat → Int → Bool} {W : List Bool} {n : Nat} : ∀ q ∈ rqP p C W n, GoodQ q := by
  intro q hq
  unfold rqP rqF at hq
  obtain ⟨f, _, hq⟩ := List.mem_flatMap.1 hq
  obtain ⟨b, _, hq⟩ := List.mem_flatMap.1 hq
  split at hq
  · exact goodB q hq
  · cases hq
/-- What Check says of an instruction. -/
structure InsR (p : SsaProg) (i : SsaIns) : Prop where
  op : 1 ≤ i.fOp ∧ i.fOp ≤ 7
  dst : (i.fOp = 1 ∨ i.fOp = 2 ∨ i.fOp = 3 ∨ i.fOp = 5 ∨ i.fOp = 7 → 0 < i.fDst) ∧ (i.fOp = 4 ∨ i.fOp = 6 → i.fDst = 0)
  arr : i.fOp = 3 ∨ i.fOp = 4 ∨ i.fOp = 5 ∨ i.fOp = 6 → 0 ≤ i.fArr ∧ i.fArr < p.fArrays.xs.length
  n : (i.fOp = 1 ∨ i.fOp = 3 → i.fArgs.xs.length = 0) ∧ (i.fOp = 2 ∨ i.fOp = 6 → i.fArgs.xs.length = 2) ∧ (i.fOp = 4 ∨ i.fOp = 5 → i.fArgs.xs.length = 1)
  bin : i.fOp = 2 → 1 ≤ i.fBin ∧ i.fBin ≤ 15
  fn : i.fOp = 7 → 0 ≤ i.fFn ∧ i.fFn < p.fFuncs.xs.length ∧ 0 < (nth p.fFuncs.xs i.fFn.toNat).fBlocks.xs.length ∧ i.fArgs.xs.length = (parsF p i.fFn.toNat).length
theorem right_ins {p : SsaProg} {i : SsaIns} (h : rightB p i = true) : InsR p i := by
  unfold rightB shapeB at h
  by_cases h1 : i.fOp = 1
  · simp [h1] at h
    have hl : i.fArgs.xs.length = 0 := congrArg List.length h.1
    have h := h.2
    exact ⟨by omega, ⟨fun q => by omega, fun q => by omega⟩, fun q => by omega, ⟨fun q => by omega, fun q => by omega, fun q => by omega⟩, fun q => by omega, fun q => by omega⟩
  by_cases h2 : i.fOp = 2
  · simp [h2] at h
    exact ⟨by omega, ⟨fun q => by omega, fun q => by omega⟩, fun q => by omega, ⟨fun q => by omega, fun q => by omega, fun q => by omega⟩, fun q => by omega, fun q => by omega⟩
  by_cases h3 : i.fOp = 3
  · simp [h3] at h
    have hl : i.fArgs.xs.length = 0 := congrArg List.length h.1
    have h := h.2
    exact ⟨by omega, ⟨fun q => by omega, fun q => by omega⟩, fun q => by omega, ⟨fun q => by omega, fun q => by omega, fun q => by omega⟩, fun q => by omega, fun q => by omega⟩
  by_cases h4 : i.fOp = 4
  · simp [h4] at h
    exact ⟨by omega, ⟨fun q => by omega, fun q => by omega⟩, fun q => by omega, ⟨fun q => by omega, fun q => by omega, fun q => by omega⟩, fun q => by omega, fun q => by omega⟩
  by_cases h5 : i.fOp = 5
  · simp [h5] at h
    exact ⟨by omega, ⟨fun q => by omega, fun q => by omega⟩, fun q => by omega, ⟨fun q => by omega, fun q => by omega, fun q => by omega⟩, fun q => by omega, fun q => by omega⟩
  by_cases h6 : i.fOp = 6
  · simp [h6] at h
    exact ⟨by omega, ⟨fun q => by omega, fun q => by omega⟩, fun q => by omega, ⟨fun q => by omega, fun q => by omega, fun q => by omega⟩, fun q => by omega, fun q => by omega⟩
  by_cases h7 : i.fOp = 7
  · simp [h7] at h
    obtain ⟨a1, a2, a3, a4, a5, a6⟩ := h
    exact ⟨by omega, ⟨fun q => by omega, fun q => by omega⟩, fun q => by omega, ⟨fun q => by omega, fun q => by omega, fun q => by omega⟩, fun q => by omega, fun q => ⟨a3, a4, a5, a6⟩⟩
  simp [h1, h2, h3, h4, h5, h6, h7] at h
/-- What Check says of a program, function by function. -/
structure GoodP (p : SsaProg) : Prop where
  n0 : ∀ f, f < p.fFuncs.xs.length → 0 < (nth p.fFuncs.xs f).fBlocks.xs.length
  ends : ∀ f, f < p.fFuncs.xs.length → ∀ b, b < (nth p.fFuncs.xs f).fBlocks.xs.length → endsB (nth p.fFuncs.xs f) (nth (nth p.fFuncs.xs f).fBlocks.xs b).fEnd = true
  ins : ∀ f, f < p.fFuncs.xs.length → ∀ b, b < (nth p.fFuncs.xs f).fBlocks.xs.length → ∀ j, j < (nth (nth p.fFuncs.xs f).fBlocks.xs b).fIns.xs.length → InsR p (nth (nth (nth p.fFuncs.xs f).fBlocks.xs b).fIns.xs j)
  arr : ∀ i, i < p.fArrays.xs.length → arrB (nth p.fArrays.xs i) = true
theorem goodP_of {p : SsaProg} (h : checkB p = true) : GoodP p := by
  unfold checkB at h
  rw [Bool.and_eq_true, Bool.and_eq_true, List.all_eq_true, List.all_eq_true] at h
  obtain ⟨⟨h1, _⟩, h2⟩ := h
  have hf : ∀ f, f < p.fFuncs.xs.length → fnB p (nth p.fFuncs.xs f) = true := fun f hf => h2 _ (nth_mem hf)
  have hb : ∀ f, f < p.fFuncs.xs.length → 0 < (nth p.fFuncs.xs f).fBlocks.xs.length ∧ ∀ b, b < (nth p.fFuncs.xs f).fBlocks.xs.length → blkB p (nth p.fFuncs.xs f) (nth (nth p.fFuncs.xs f).fBlocks.xs b) = true := fun f hfn => by
    have := hf f hfn
    unfold fnB at this
    simp only [Bool.and_eq_true, decide_eq_true_eq, List.all_eq_true] at this
    exact ⟨this.1.1.1.1, fun b hb => this.1.2 _ (nth_mem hb)⟩
  refine ⟨fun f hfn => (hb f hfn).1, fun f hfn b hbn => ?_, fun f hfn b hbn j hj => ?_, fun i hi => h1 _ (nth_mem hi)⟩
  · have := (hb f hfn).2 b hbn
    unfold blkB at this
    rw [Bool.and_eq_true] at this
    exact this.1
  · have := (hb f hfn).2 b hbn
    unfold blkB at this
    rw [Bool.and_eq_true, List.all_eq_true] at this
    exact right_ins (this.2 _ (nth_mem hj))
theorem way_facts {f : SsaFunc} {e : SsaEnd} (h : endsB f e = true) {w : SsaEdge} (hw : w ∈ e.fWays.xs) : 1 ≤ w.fTo ∧ w.fTo < f.fBlocks.xs.length ∧ w.fArgs.xs.length = (nth f.fBlocks.xs w.fTo.toNat).fParams.xs.length := by
  unfold endsB at h
  rw [Bool.and_eq_true, List.all_eq_true] at h
  have := h.2 w hw
  unfold wayB at this
  simp only [Bool.and_eq_true, decide_eq_true_eq] at this
  exact ⟨this.1.1, this.1.2, this.2⟩
theorem par_made {f : SsaFunc} {b : Nat} (hb : b < f.fBlocks.xs.length) : ∀ v ∈ (nth f.fBlocks.xs b).fParams.xs, v ∈ madeAll f.fBlocks.xs := fun v hv => List.mem_flatMap.2 ⟨_, nth_mem hb, List.mem_append_left _ hv⟩
theorem dst_made {f : SsaFunc} {b j : Nat} (hb : b < f.fBlocks.xs.length) (hj : j < (nth f.fBlocks.xs b).fIns.xs.length) (h0 : (nth (nth f.fBlocks.xs b).fIns.xs j).fDst ≠ 0) : (nth (nth f.fBlocks.xs b).fIns.xs j).fDst ∈ madeAll f.fBlocks.xs := by
  refine List.mem_flatMap.2 ⟨_, nth_mem hb, List.mem_append_right _ ?_⟩
  unfold dstsB7
  exact List.mem_filter.2 ⟨List.mem_map.2 ⟨_, nth_mem hj, rfl⟩, by simpa using h0⟩
theorem blkOk_of {p : SsaProg} (hG : GoodP p) (hp : FewPr p) {k : TC} (hkp : k.p = p) (hkn : k.n = p.fFuncs.xs.length) (hK : ∀ f, k.K f = madeAll (nth p.fFuncs.xs f).fBlocks.xs) {f b : Nat} (hf : f < p.fFuncs.xs.length) (hb : b < (nth p.fFuncs.xs f).fBlocks.xs.length) : BlkOk k p.fArrays.xs.length f (nth (nth p.fFuncs.xs f).fBlocks.xs b) := by
  have hfw := (hp.k f hf).k b hb
  refine ⟨by have := hfw.i; omega, fun j hj => ?_, by have := hfw.w; omega, fun j hj => ?_⟩
  · have hi := hG.ins f hf b hb j hj
    refine ⟨by have := hfw.ia j hj; omega, fun ho => ?_, hi.arr, fun ho => ?_, fun ho => ?_⟩
    · rw [hK]
      have := hi.dst.1 ho
      exact dst_made hb hj (by omega)
    · have := hi.n.2.1 (.inr ho)
      omega
    · obtain ⟨a1, a2, a3, a4⟩ := hi.fn ho
      rw [hkp, hkn, hK]
      exact ⟨a1, a2, a3, a4, par_made a3⟩
  · obtain ⟨a1, a2, a3⟩ := way_facts (hG.ends f hf b hb) (nth_mem hj)
    have hto : (nth (nth (nth p.fFuncs.xs f).fBlocks.xs b).fEnd.fWays.xs j).fTo.toNat < (nth p.fFuncs.xs f).fBlocks.xs.length := by omega
    refine ⟨by omega, by rw [hkp]; exact a2, by rw [hkp]; exact a3, ?_, ?_⟩
    · rw [hkp]
      have := ((hp.k f hf).k _ hto).p
      show (nth (nth p.fFuncs.xs f).fBlocks.xs _).fParams.xs.length ≤ 1000
      omega
    · rw [hkp, hK]
      exact par_made hto
/-- The labels at the beginning. -/
def baseL (p : SsaProg) : Lb := fun g => if g.1 = 1 ∧ g.2.2 = 0 ∧ g.2.1 < p.fArrays.xs.length ∧ (nth p.fArrays.xs g.2.1).fHold = 2 then 2 else 0
/-- What the solver ends with: it all holds, and it is the least of what holds. -/
structure Labd (p : SsaProg) (C : Nat → Int → Bool) (s : LSt) : Prop where
  al : s.A.length = p.fArrays.xs.length
  rl : s.Rt.length = p.fFuncs.xs.length
  closed : ClosedR (rqP p C (writesL p) p.fFuncs.xs.length) (labL s)
  base : ∀ g, baseL p g ≤ labL s g
  least : ∀ L', ClosedR (rqP p C (writesL p) p.fFuncs.xs.length) L' → (∀ g, baseL p g ≤ L' g) → ∀ g, labL s g ≤ L' g
end Go.Proofs.Ytomhieglgfjloaa
