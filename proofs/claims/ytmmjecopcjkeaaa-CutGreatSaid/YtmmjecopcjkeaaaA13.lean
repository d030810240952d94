/- More rules: rows that grow by made ones, capacities, cells of functions. -/
import Derived.Test.YtmmjecopcjkeaaaA12
namespace Go.Proofs.Ytmmjecopcjkeaaa
set_option linter.unusedVariables false
set_option linter.unusedSimpArgs false
open Go Go.RowKit

/-- The value of a cell that holds a function. -/
inductive Fv where
  | no
  | fn (g : FuncId) (cap : List Value)
def Fv.v : Fv → Value
  | .no => .nilFunc
  | .fn g cap => .func (.func g) #[] cap.toArray
instance : Enc Fv where
  enc := fun x => [x.v]
  sz := 1
  dflt := .no
  len := fun _ => rfl
  one := by
    intro x u h
    simp only [List.mem_cons, List.not_mem_nil, or_false] at h
    subst h
    cases x <;> rfl
  pos := by decide
section
variable {P : Program} {n : Nat} {w0 w1 w : World} {f0 f1 : FP} {ops : Array Oper} {m : Bool} {rest : List Oper} {QC : Exit → Fr → World → Prop} {f : Fr} {L L1 L2 : List HP}
variable {d : Tmp} {ty t tx e : TypeId} {x y : Operand} {pos : String} {after : Array Edge} {α : Type} [I : Enc α] {sz bytes l c : Nat} {A : Option Addr}
theorem run_append_made (t tx ty e : TypeId) (i : TypeInfo) (z : Value) {q : IntKind} (ht : P.underlying t = some (.slice e)) (hx : P.underlying tx = some (.int q)) (hi : P.info? e = some i) (hz : i.zero = some z) (k : Nat) (h0 : 0 < k) (hs : 0 < i.size) (h63 : (k : Int) ≤ 9223372036854775807) (h48 : k * i.bytes ≤ 281474976710656) :
    (Builtin.append_ #[t, tx] ty #[.slice none 0 0, .int .i64 (k : Int)]).run P w =
      .ok (.slice (some ⟨w.heap.size, 0, none⟩) k (grownCap w k 0 e)) (w.drew.alloc (.cells (Builtin.zeroCells z.cells k ++ Builtin.zeroCells z.cells (grownCap w k 0 e - k)) e)) := by
  have hn : k ≠ 0 := by omega
  have h63' : ¬ (9223372036854775807 < (k : Int)) := by omega
  have h48' : ¬ (281474976710656 < Builtin.nextslicecap k 0 * i.bytes) := by rw [nextslicecap_zero h0]; omega
  have hw : IntKind.i64.wrap (k : Int) = (k : Int) := i64_in _ (by omega)
  have hk0 : ¬ ((k : Int) < 0) := by omega
  have hb : ¬ (281474976710656 < (k : Int) * (i.bytes : Int)) := by
    have h1 : ((k * i.bytes : Nat) : Int) ≤ 281474976710656 := by omega
    rw [Int.natCast_mul] at h1
    omega
  have hks : ¬ (k * i.size = 0) := Nat.pos_iff_ne_zero.1 (Nat.mul_pos h0 hs)
  have hs0 : i.size ≠ 0 := by omega
  simp [Builtin.append_, run_underlying ht, run_underlying hx, sizeOf, typeInfo, zeroValue, hi, hz, hn, h63', h48', Question.forced, run_firstCells_none, newRow, grownCap, asInt, asIntOf, Result.andThen, hw, hk0, hb, hs0]
  rw [if_neg hks]
  rfl
theorem s_appMk {q : IntKind} [hs : SlT P t e] [hE : Elt P e α I sz bytes] {k : Nat} (hti : P.underlying tx = some (.int q)) (hx : ev f x = .slice none 0 0) (hy : ev f y = .int .i64 (k : Int)) (hk : 0 < k) (hb : k * bytes ≤ 140737488355328)
    (hn : ∀ b c, sO P n w0 f0 ops false rest QC (up f d (.slice (some ⟨b, 0, none⟩) k c)) (own (I := I) e (some ⟨b, 0, none⟩) k c (List.replicate k I.dflt) :: L)) (hd : Nat.blt d n = true := by rfl) :
    sO P n w0 f0 ops false (⟨some d, .call { callee := .builtin .append, args := #[x, y], argTypes := #[t, tx] }, ty, pos, after, none⟩ :: rest) QC f L := by
  intro w H
  obtain ⟨zv, hTI, hzv⟩ := hE.ex
  have hsz := hE.sz_eq
  obtain ⟨i, hi, hz0, hz1, hz2⟩ := hTI.info
  subst hz1
  subst hz2
  have hpos : 0 < i.size := by rw [← hsz]; exact I.pos
  have hk2 : k ≤ 140737488355328 := Nat.le_trans (Nat.le_mul_of_pos_right _ hTI.posb) hb
  have hr := run_append_made (P := P) (w := w) t tx ty e i zv hs.u hti hi hz0 k hk hpos (by omega) (by omega)
  have hge := grownCap_ge w k 0 e
  have hcm : grownCap w k 0 e ≤ maxLen := grownCap_le_maxLen w k 0 e (by simp only [maxLen]; omega)
  have e1 : (Builtin.zeroCells zv.cells k).toList = (List.replicate k I.dflt).flatMap I.enc := by
    have := made_flat zv.cells k
    rw [hzv] at this
    exact this.trans (rep_flat k)
  have hl1 : ((List.replicate k I.dflt).flatMap I.enc).length = k * I.sz := by rw [flat_len (fun a _ => I.len a)]; simp
  refine o_val (w' := w.drew.alloc (.cells (Builtin.zeroCells zv.cells k ++ Builtin.zeroCells zv.cells (grownCap w k 0 e - k)) e)) (v := .slice (some ⟨w.heap.size, 0, none⟩) k (grownCap w k 0 e)) rfl hd ?_ (hn w.heap.size (grownCap w k 0 e) _ (St.head (H.add (own (I := I) e (some ⟨w.heap.size, 0, none⟩) k (grownCap w k 0 e) (List.replicate k I.dflt)) ((Step.drew w (fun _ => False)).trans (Step.alloc w.drew (fun _ => False) _) fun b hb => .inl hb) (g := fun x => x = w.heap.size) ?_ fun b hb => Nat.le_of_eq hb.symm)))
  · simp [execOp, resolve, invoke, builtin, hx, hy, hr]
  · refine ⟨hl1, hge, hcm, rfl, fun _ => Iff.rfl, _, heap_alloc_new w.drew _, ?_, ?_⟩
    · simp only [Array.size_append, size_zeroCells, hTI.zs, ← Nat.add_mul, Nat.zero_add]
      rw [show k + (grownCap w k 0 e - k) = grownCap w k 0 e by omega, hsz]
      exact Nat.le_refl _
    · simp only [Array.toList_append, List.drop_zero, e1]
      rw [← hl1]
      exact List.take_left
theorem s_cap [hs : SlT P t e] (hx : ev f x = .slice A l c) (h : sO P n w0 f0 ops m rest QC (up f d (.int .i64 (c : Int))) L) (hd : Nat.blt d n = true := by rfl) : sO P n w0 f0 ops m (⟨some d, .call { callee := .builtin .cap, args := #[x], argTypes := #[t] }, ty, pos, after, none⟩ :: rest) QC f L := by
  intro w H
  refine o_pure (v := .int .i64 (c : Int)) rfl hd ?_ (h w H)
  simp [execOp, resolve, invoke, builtin, hx, Builtin.cap_, run_underlying hs.u, goInt, Result.andThen]
end
end Go.Proofs.Ytmmjecopcjkeaaa
