/- Regions in drawn order with two steps that write beside what only reads. -/
import Derived.Test.YtmmjecopcjkeaaaA14
namespace Go.Proofs.Ytmmjecopcjkeaaa
set_option linter.unusedVariables false
set_option linter.unusedSimpArgs false
open Go Go.RowKit

section
variable {P : Program} {n : Nat} {w0 : World} {f0 : FP} {ops : Array Oper} {rest : List Oper} {QC : Exit → Fr → World → Prop} {f : Fr} {L L0 : List HP} {o2 : Oper}
def jnS (w0 : World) (f0 : FP) (L0 : List HP) (nxt : Fr → World → Prop) : Exit → Fr → World → Prop := fun _ f' w' => St w0 f0 L0 w' ∧ nxt f' w'
theorem e_jn2 {nxt : Fr → World → Prop} (h1 : PSub w0 f0 L L0) (h2 : sO P n w0 f0 ops false [o2] (jnS w0 f0 L0 nxt) f L) : sE w0 f0 (jnS w0 f0 L0 fun f1 w1 => wO P ops n false [o2] (fun f2 w2 => St w0 f0 L0 w2 ∧ nxt f2 w2) f1 w1) .normal f L := fun w H => ⟨h1 w H, h2 w H⟩
theorem e_jnE (h1 : PSub w0 f0 L L0) (h2 : sO P n w0 f0 ops false rest QC f L) : sE w0 f0 (jnS w0 f0 L0 fun f2 w2 => wO P ops n false rest (fun f3 w3 => QC .normal f3 w3) f2 w2) .normal f L := fun w H => ⟨h1 w H, h2 w H⟩
/-- What only reads (rs) reads of L0 alone; beside it two steps (k1, k2) that leave L0 as it is; and behind them a chain. -/
theorem s_mixJ2 {id N k1 k2 : Nat} {rs : List Nat} {lo : List Oper} {F : Fr} {o1 : Oper} (L0 : List HP) (hk : opsAt lo [k1, k2] = [o1, o2]) (hm : P.follows .mixedOrders = true) (hB : mixB .any n lo N rs [k1, k2] = true) (hL0 : PSub w0 f0 L L0)
    (hread : sO P n w0 f0 lo.toArray true (opsAt lo rs) (QCF F) f L0) (h1 : sO P n w0 f0 lo.toArray false [o1] (jnS w0 f0 L0 fun f1 w1 => wO P lo.toArray n false [o2] (fun f2 w2 => St w0 f0 L0 w2 ∧ wO P lo.toArray n false (lo.drop N) (fun f3 w3 => QC .normal f3 w3) f2 w2) f1 w1) F L) :
    sC P n w0 f0 (.region id lo.toArray true) QC f L := by
  intro w H
  refine wC_mix (J := fun w' => St w0 f0 L0 w') N rs [k1, k2] F hm hB (hL0 _ (H.idle (Step.drew w _))) (fun w' H' => hread w' H') ?_
  rw [hk]
  simp only [wJ]
  exact h1 _ (H.idle (Step.drew w _))
end
end Go.Proofs.Ytmmjecopcjkeaaa
