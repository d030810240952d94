/- Layer 12: what the walk of the law's own facts needs. -/
import Derived.Test.YtomhieglgfjloaaQ22
import Derived.Test.YtomhieglgfjloaaA18
namespace Go.Proofs.Ytomhieglgfjloaa
set_option linter.unusedVariables false
set_option linter.unusedSimpArgs false
open Go Go.RowKit

section
variable {n : Nat} {w0 : World} {f0 : FP} {ops : Array Oper} {m : Bool} {rest : List Oper} {QC : Exit → Fr → World → Prop} {f : Fr} {L : List HP} {x y : Operand} {d : Tmp} {ty t e kt : TypeId} {pos : String} {after : Array Edge}
variable {α : Type} {E : EK Try.prog e α} {U mi : Nat → Nat} {k b : Nat} {F : Nat → Int → Option α} {key : Int}
/-- A map of many is read. -/
theorem s_lookG [hm : MpT Try.prog t kt e] [he : Ekc Try.prog e α E] (i : Nat) (hi : L[i]? = some (bagG E kt U k mi F)) (hb : b < k) {v : Option Nat} (hv : v = some (mi b)) (hx : ev f x = .map v) (hy : ev f y = .int .i64 key) [hw : RdD (okOf w0 f0) w0 key] (hn : sO Try.prog n w0 f0 ops m rest QC (up f d (E.enc ((F b key).getD E.zero))) L) (hd : Nat.blt d n = true := by rfl) : sO Try.prog n w0 f0 ops m (⟨some d, .lookup t x y false, ty, pos, after, none⟩ :: rest) QC f L := by
  subst hv
  intro w H
  obtain ⟨f1, hA, _, _⟩ := H.focus i hi
  obtain ⟨g1, h1, _⟩ := star_at hA (i := b) (X := mp E kt (mi b) (U b) (F b)) (by rw [List.getElem?_map, List.getElem?_range hb]; rfl)
  refine o_pure (v := E.enc ((F b key).getD E.zero)) rfl hd ?_ (hn w H)
  simp [execOp, hx, hy, h1.2.look hm.k hm.u (he.z w) (RdD.int hw)]
end
theorem anyF_succ {f : Nat} {xs : List Int} {M : Fb} {a : Nat} (h : a < xs.length) : anyF f (xs.take (a + 1)) M = (anyF f (xs.take a) M || M (0, f, nth xs a)) := by
  unfold anyF
  rw [← takeN h, List.any_append]
  simp
def partB (b : SsaBlock) : Nat := b.fParams.xs.length + b.fIns.xs.length
def partFn (f : SsaFunc) : Nat := 1 + (f.fBlocks.xs.map partB).sum
def partsP (p : SsaProg) : Nat := (p.fFuncs.xs.map partFn).sum
theorem sum_take {α : Type} [Enc α] {g : α → Nat} {xs : List α} {j : Nat} (h : j < xs.length) : ((xs.take (j + 1)).map g).sum = ((xs.take j).map g).sum + g (nth xs j) := by
  rw [← takeN h, List.map_append, List.sum_append]; simp
theorem sum_few {α : Type} {g : α → Nat} {c : Nat} : ∀ {l : List α}, (∀ x ∈ l, g x ≤ c) → (l.map g).sum ≤ l.length * c
  | [], _ => Nat.zero_le _
  | a :: l, h => by
    rw [List.map_cons, List.sum_cons, List.length_cons, Nat.succ_mul]
    have h1 := h a (by simp)
    have h2 := sum_few (l := l) fun x hx => h x (by simp [hx])
    omega
theorem partB_few {b : SsaBlock} (h : FewBk b) : partB b ≤ 60 := by
  have := h.p
  have := h.i
  unfold partB; omega
theorem few_blocks {f : SsaFunc} (h : FewFn f) (n : Nat) : ((f.fBlocks.xs.take n).map partB).sum ≤ 1800 := by
  have h1 := sum_few (g := partB) (c := 60) (l := f.fBlocks.xs.take n) fun b hb => by
    obtain ⟨m, hm, rfl⟩ := List.getElem_of_mem (List.mem_of_mem_take hb)
    rw [← nth_get hm]; exact partB_few (h.k m hm)
  have h2 := h.b
  have h3 : (f.fBlocks.xs.take n).length ≤ 30 := by rw [List.length_take]; omega
  omega
theorem partFn_few {f : SsaFunc} (h : FewFn f) : partFn f ≤ 1801 := by
  have := few_blocks h f.fBlocks.xs.length
  rw [List.take_length] at this
  unfold partFn; omega
theorem few_funcs {p : SsaProg} (h : FewPr p) (n : Nat) : ((p.fFuncs.xs.take n).map partFn).sum ≤ 9005 := by
  have h1 := sum_few (g := partFn) (c := 1801) (l := p.fFuncs.xs.take n) fun b hb => by
    obtain ⟨m, hm, rfl⟩ := List.getElem_of_mem (List.mem_of_mem_take hb)
    rw [← nth_get hm]; exact partFn_few (h.k m hm)
  have h2 := h.f
  have h3 : (p.fFuncs.xs.take n).length ≤ 5 := by rw [List.length_take]; omega
  omega
/-- All that a request may speak of: no more than there are parts and arrays. -/
def allT (p : SsaProg) : List Tgt := ((List.range p.fArrays.xs.length).map fun i => (1, i, 0)) ++ ((List.range p.fFuncs.xs.length).flatMap fun f => (2, f, 0) :: (madeAll (nth p.fFuncs.xs f).fBlocks.xs).map fun v => (0, f, v))
theorem madeAll_part {bs : List SsaBlock} : (madeAll bs).length ≤ (bs.map partB).sum := by
  induction bs with
  | nil => exact Nat.le_refl _
  | cons b bs ih =>
    unfold madeAll at ih ⊢
    rw [List.flatMap_cons, List.length_append, List.map_cons, List.sum_cons]
    have : (madeB b).length ≤ partB b := by
      unfold madeB partB
      rw [List.length_append]
      have := dstsB7_len b.fIns.xs
      omega
    omega
theorem range_flat {α β γ : Type} [Enc α] {xs : List α} {g : α → List γ} {g' : Nat → List β} (h : ∀ i, i < xs.length → (g' i).length = (g (nth xs i)).length) : ((List.range xs.length).flatMap g').length = (xs.flatMap g).length := by
  rw [List.length_flatMap, List.length_flatMap]
  congr 1
  apply List.ext_getElem
  · simp
  · intro i h1 h2
    have hi : i < xs.length := by simpa using h1
    simp only [List.getElem_map, List.getElem_range]
    rw [h i hi, nth_get hi]
theorem allT_len {p : SsaProg} : (allT p).length ≤ partsP p + p.fArrays.xs.length := by
  unfold allT
  rw [List.length_append, List.length_map, List.length_range, range_flat (g := fun f => (0 : Int) :: madeAll f.fBlocks.xs) fun i _ => by simp]
  have h : ∀ fs : List SsaFunc, (fs.flatMap fun f => (0 : Int) :: madeAll f.fBlocks.xs).length ≤ (fs.map partFn).sum := by
    intro fs
    induction fs with
    | nil => exact Nat.le_refl _
    | cons f fs ih =>
      rw [List.flatMap_cons, List.length_append, List.map_cons, List.sum_cons, List.length_cons]
      have := madeAll_part (bs := f.fBlocks.xs)
      have h1 : partFn f = 1 + (f.fBlocks.xs.map partB).sum := rfl
      omega
  have := h p.fFuncs.xs
  unfold partsP
  omega
theorem allT_in {p : SsaProg} (hG : GoodP p) {x : Fx} : ∀ q ∈ fqP p x p.fFuncs.xs.length, q.g ∈ allT p := by
  intro q hq
  unfold fqP fqF at hq
  obtain ⟨f, hf, hq⟩ := List.mem_flatMap.1 hq
  obtain ⟨b, hb, hq⟩ := List.mem_flatMap.1 hq
  have hf := List.mem_range.1 hf
  have hb := List.mem_range.1 hb
  have hv : ∀ f', f' < p.fFuncs.xs.length → ∀ v ∈ madeAll (nth p.fFuncs.xs f').fBlocks.xs, ((0, f', v) : Tgt) ∈ allT p := fun f' hf' v hv => List.mem_append_right _ (List.mem_flatMap.2 ⟨f', List.mem_range.2 hf', List.mem_cons_of_mem _ (List.mem_map.2 ⟨v, hv, rfl⟩)⟩)
  have hr : ∀ f', f' < p.fFuncs.xs.length → ((2, f', 0) : Tgt) ∈ allT p := fun f' hf' => List.mem_append_right _ (List.mem_flatMap.2 ⟨f', List.mem_range.2 hf', List.mem_cons_self⟩)
  have ha : ∀ i, i < p.fArrays.xs.length → ((1, i, 0) : Tgt) ∈ allT p := fun i hi => List.mem_append_left _ (List.mem_map.2 ⟨i, List.mem_range.2 hi, rfl⟩)
  split at hq
  · unfold fqB at hq
    rcases List.mem_append.1 hq with hq | hq
    · rcases List.mem_append.1 hq with hq | hq
      · obtain ⟨i, hi, hq⟩ := List.mem_flatMap.1 hq
        obtain ⟨m, hm, rfl⟩ := List.getElem_of_mem hi
        have hI := hG.ins f hf b hb m hm
        rw [← nth_get hm] at hq
        have hd : (nth (nth (nth p.fFuncs.xs f).fBlocks.xs b).fIns.xs m).fDst ≠ 0 → ((0, f, (nth (nth (nth p.fFuncs.xs f).fBlocks.xs b).fIns.xs m).fDst) : Tgt) ∈ allT p := fun h0 => hv f hf _ (dst_made hb hm h0)
        generalize nth (nth (nth p.fFuncs.xs f).fBlocks.xs b).fIns.xs m = i at hq hI hd
        have hdst := hI.dst
        have harr := hI.arr
        unfold fqI at hq
        split at hq
        · rw [List.mem_singleton] at hq
          rw [hq]; exact hd (by omega)
        split at hq
        · rw [List.mem_singleton] at hq
          rw [hq]; exact hd (by omega)
        split at hq
        · rw [List.mem_singleton] at hq
          rw [hq]; exact ha _ (by omega)
        split at hq
        · rw [List.mem_singleton] at hq
          rw [hq]; exact ha _ (by omega)
        split at hq
        · obtain ⟨h0, h1, h2, h3⟩ := hI.fn (by assumption)
          rcases List.mem_append.1 hq with hq | hq
          · unfold callF at hq
            obtain ⟨k, hk, rfl⟩ := List.mem_map.1 hq
            exact hv _ (by omega) _ (par_made h2 _ (nth_mem (List.mem_range.1 hk)))
          · rw [List.mem_singleton] at hq
            rw [hq]; exact hd (by omega)
        · cases hq
      · obtain ⟨w, hw, hq⟩ := List.mem_flatMap.1 hq
        obtain ⟨h1, h2, _⟩ := way_facts (hG.ends f hf b hb) hw
        unfold fqW fwayR at hq
        obtain ⟨k, hk, rfl⟩ := List.mem_map.1 hq
        exact hv f hf _ (par_made (by omega) _ (nth_mem (List.mem_range.1 hk)))
    · unfold fqE at hq
      split at hq
      · rw [List.mem_singleton] at hq
        rw [hq]; exact hr f hf
      · cases hq
  · cases hq
/-- .. at the top level. -/
def xHi (Cf : Nat → Int → Option Bool) : Fx := ⟨true, cutB Cf, [], false, id⟩
/-- .. and below. -/
def xLo (Cf : Nat → Int → Option Bool) (W : List Bool) (st : Bool) (H : Fb) : Fx := ⟨false, cutB Cf, W, st, fun _ => H⟩
end Go.Proofs.Ytomhieglgfjloaa
