/- A slice of the first few of a row that is only read, with its own limit. -/
import Derived.Test.YtomhieglgfjloaaA6
namespace Go.Proofs.Ytomhieglgfjloaa
set_option linter.unusedVariables false
set_option linter.unusedSimpArgs false
open Go Go.RowKit

section
variable {P : Program} {n : Nat} {w0 w : World} {f0 : FP} {ops : Array Oper} {m md : Bool} {rest : List Oper} {Q : Fr → World → Prop} {QC : Exit → Fr → World → Prop} {f : Fr} {L : List HP} {x y z u : Operand} {d : Tmp} {ty t e : TypeId} {pos : String} {after : Array Edge} {A : Option Addr} {l c : Nat}
theorem o_cutN3 {zv : Value} {sz bytes : Nat} (ht : P.underlying t = some (.slice e)) (hI : TI P e zv sz bytes) {k k' : IntKind} {j i : Int} (hx : ev f x = .slice A l c) (hy : ev f y = .int k j) (hz : ev f z = .int k' i) (h0 : 0 ≤ j) (h1 : j ≤ i) (h2 : i ≤ c)
    (h : wO P ops n md rest Q (up f d (.slice A j.toNat i.toNat)) w) (hd : Nat.blt d n = true := by rfl) : wO P ops n md (⟨some d, .slice t x none (some y) (some z), ty, pos, after, none⟩ :: rest) Q f w := by
  refine o_pure (v := .slice A j.toNat i.toNat) rfl hd ?_ h
  have h3 : 0 ≤ i := by omega
  have h4 : j ≤ (i.toNat : Int) := by omega
  have h5 : j ≤ max i 0 := by omega
  simp [execOp, hx, hy, hz, Instr.sliceAt, run_underlying ht, Instr.slice, Instr.sliceBounds, Instr.sliceBound, asIntOf, h0, h1, h2, h3, h4, h5, hI.size]
  cases A <;> simp [add_zero']
theorem s_cutN3 [hs : SlT P t e] {α : Type} [I : Enc α] {sz bytes : Nat} [hE : Elt P e α I sz bytes] {k k' : IntKind} {j i : Int} (hx : ev f x = .slice A l c) (hy : ev f y = .int k j) (hz : ev f z = .int k' i) (h0 : 0 ≤ j) (h1 : j ≤ i) (h2 : i ≤ c)
    (hn : sO P n w0 f0 ops m rest QC (up f d (.slice A j.toNat i.toNat)) L) (hd : Nat.blt d n = true := by rfl) : sO P n w0 f0 ops m (⟨some d, .slice t x none (some y) (some z), ty, pos, after, none⟩ :: rest) QC f L := by
  intro w H
  obtain ⟨zv, hTI, _⟩ := hE.ex
  exact o_cutN3 hs.u hTI hx hy hz h0 h1 h2 (hn w H) hd
end
/-- The first k of what may be read may be read. -/
theorem rd_take {α : Type} [I : Enc α] [D : Dp α] {ok : FP} {w : World} {s : Sl α} (h : RdD ok w s) {k : Nat} (hk : k ≤ s.xs.length) : RdD ok w (⟨s.A, k, s.xs.take k⟩ : Sl α) := by
  obtain ⟨⟨h1, h2, h3, h4⟩, h5⟩ := h.h
  have hl : (s.xs.take k).length = k := by rw [List.length_take]; omega
  refine ⟨⟨⟨flat_len fun u _ => I.len u, by show (s.xs.take k).length ≤ k; omega, by show k ≤ maxLen; omega, ?_⟩, fun u hu => h5 u (List.mem_of_mem_take hu)⟩⟩
  rcases h4 with h4 | ⟨a, e, hlt, hcell⟩
  · exact .inl (by show (s.xs.take k).length = 0; omega)
  · refine .inr ⟨a, e, hlt, fun j v hj => hcell j v ?_⟩
    have e3 : s.xs.flatMap I.enc = (s.xs.take k).flatMap I.enc ++ (s.xs.drop k).flatMap I.enc := by rw [← List.flatMap_append, List.take_append_drop]
    have hj : ((s.xs.take k).flatMap I.enc)[j]? = some v := hj
    rw [e3, List.getElem?_append_left (List.getElem?_eq_some_iff.1 hj).1]
    exact hj
end Go.Proofs.Ytomhieglgfjloaa
