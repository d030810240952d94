/- Structs of whole numbers, compared. -/
import Derived.Test.YtoknjpmlloikhaaA6
namespace Go.Proofs.Ytoknjpmlloikhaa
set_option linter.unusedVariables false
set_option linter.unusedSimpArgs false
open Go Go.RowKit

section
variable {P : Program}
def ivA (xs : Array Value) (o : Nat) : Int := match xs[o]? with
  | some (.int _ a) => a
  | _ => 0
structure FInt (P : Program) (f : Field) : Prop where
  n : f.name ≠ "_"
  k : ∃ k, P.underlying f.type = some (.int k)
  o : T1 P f.type
def hasI (xs ys : Array Value) (o : Nat) : Prop := ∃ k a b, xs[o]? = some (.int k a) ∧ ys[o]? = some (.int k b)
theorem eqF_ints (d : Nat) (w : World) {xs ys : Array Value} : ∀ (fs : List Field), (∀ f ∈ fs, FInt P f ∧ hasI xs ys f.offset) → (Op.eqFields (d + 1) xs ys fs).run P w = .ok (fs.all fun f => ivA xs f.offset == ivA ys f.offset) w
  | [], _ => rfl
  | f :: fs, h => by
    obtain ⟨hf, ⟨k, a, b, ha, hb⟩⟩ := h f (by simp)
    obtain ⟨u, hu⟩ := hf.k
    have ih := eqF_ints d w fs fun g hg => h g (by simp [hg])
    have e1 : ivA xs f.offset = a := by unfold ivA; rw [ha]
    have e2 : ivA ys f.offset = b := by unfold ivA; rw [hb]
    have p1 : (part f.type xs f.offset).run P w = .ok (.int k a) w := part1 hf.o ha w
    have p2 : (part f.type ys f.offset).run P w = .ok (.int k b) w := part1 hf.o hb w
    have q : (Op.equalIn (d + 1) f.type (.int k a) (.int k b)).run P w = .ok (a == b) w := run_equalIn_int w d f.type k u a b hu
    rw [List.all_cons, e1, e2]
    unfold Op.eqFields
    rw [if_pos hf.n]
    simp only [Sem.run_bind, p1, p2, q, Result.andThen_ok]
    cases hab : (a == b) with
    | false => rfl
    | true => simpa using ih
/-- Values of a type are compared. -/
class EqS (P : Program) (t : TypeId) (α : Type) (I : Enc α) : Prop where
  h : ∀ (a b : α), ∃ r : Bool, (r = true ↔ a = b) ∧ ∀ w, (Op.equalIn 10000 t (.agg (I.enc a).toArray) (.agg (I.enc b).toArray)).run P w = .ok r w
  g : P.eqGuardType P.depth t = false
theorem eqS_of {t : TypeId} {α : Type} {I : Enc α} {fs : Array Field} (hg : P.eqGuardType P.depth t = false) (hu : P.underlying t = some (.struct fs)) (hp : P.stoodInHeld t = false) (hf : ∀ f ∈ fs.toList, FInt P f) (hi : ∀ (a b : α), ∀ f ∈ fs.toList, hasI (I.enc a).toArray (I.enc b).toArray f.offset)
    (hx : ∀ a b : α, (∀ f ∈ fs.toList, ivA (I.enc a).toArray f.offset = ivA (I.enc b).toArray f.offset) → a = b) : EqS P t α I := by
  have e : P.fieldsOf t = fs := by unfold Program.fieldsOf; rw [hu]
  refine ⟨fun a b => ⟨fs.toList.all fun f => ivA (I.enc a).toArray f.offset == ivA (I.enc b).toArray f.offset, ⟨fun h => ?_, fun h => ?_⟩, fun w => ?_⟩, hg⟩
  · refine hx a b fun f hfm => ?_
    have := List.all_eq_true.1 h f hfm
    simpa using this
  · subst h
    exact List.all_eq_true.2 fun f _ => by simp
  · rw [run_equalIn_struct w 9999 t _ _ (by rw [e]; exact hu) hp, e]
    exact eqF_ints 9998 w _ fun f hfm => ⟨hf f hfm, hi a b f hfm⟩
end
section
variable {P : Program} {n : Nat} {w0 w : World} {f0 : FP} {ops : Array Oper} {m md : Bool} {rest : List Oper} {Q : Fr → World → Prop} {QC : Exit → Fr → World → Prop} {f : Fr} {L : List HP} {x y z u : Operand} {d : Tmp} {ty t e yt : TypeId} {pos : String} {after : Array Edge}
variable {α : Type} [I : Enc α] [hE : EqS P t α I] {a b : α}
theorem s_neqS (hx : ev f x = .agg (I.enc a).toArray) (hy : ev f y = .agg (I.enc b).toArray) (hn : ∀ r : Bool, (r = true ↔ a = b) → sO P n w0 f0 ops m rest QC (up f d (.bool (!r))) L) (hd : Nat.blt d n = true := by rfl) : sO P n w0 f0 ops m (⟨some d, .binOp .neq t x y yt, ty, pos, after, none⟩ :: rest) QC f L := by
  intro w H
  obtain ⟨r, h1, h2⟩ := hE.h a b
  exact o_neqA r hE.g hx hy h2 (hn r h1 w H) hd
theorem s_eqlS (hx : ev f x = .agg (I.enc a).toArray) (hy : ev f y = .agg (I.enc b).toArray) (hn : ∀ r : Bool, (r = true ↔ a = b) → sO P n w0 f0 ops m rest QC (up f d (.bool r)) L) (hd : Nat.blt d n = true := by rfl) : sO P n w0 f0 ops m (⟨some d, .binOp .eql t x y yt, ty, pos, after, none⟩ :: rest) QC f L := by
  intro w H
  obtain ⟨r, h1, h2⟩ := hE.h a b
  exact o_eqlA r hE.g hx hy h2 (hn r h1 w H) hd
end
end Go.Proofs.Ytoknjpmlloikhaa
