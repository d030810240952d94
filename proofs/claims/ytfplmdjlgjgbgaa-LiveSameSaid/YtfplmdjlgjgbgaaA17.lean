/- Pieces of which only the shape is known. -/
import Derived.Test.YtfplmdjlgjgbgaaA12
namespace Go.Proofs.Ytfplmdjlgjgbgaa
set_option linter.unusedVariables false
set_option linter.unusedSimpArgs false
open Go Go.RowKit

def exH {α : Type} (F : α → HP) : HP where
  sat w g := ∃ x, (F x).sat w g
  loc := fun ⟨x, h⟩ hk => ⟨x, (F x).loc h hk⟩
  dom := fun ⟨x, h⟩ b hb => (F x).dom h b hb
def HP.le (X Y : HP) : Prop := ∀ w g, X.sat w g → Y.sat w g
theorem HP.le.refl (X : HP) : HP.le X X := fun _ _ h => h
theorem HP.le.trans {X Y Z : HP} (h : HP.le X Y) (k : HP.le Y Z) : HP.le X Z := fun w g q => k w g (h w g q)
theorem HP.le.ex {α : Type} {F : α → HP} (x : α) : HP.le (F x) (exH F) := fun _ _ h => ⟨x, h⟩
inductive LeL : List HP → List HP → Prop
  | nil : LeL [] []
  | cons {X Y : HP} {L L' : List HP} (h : HP.le X Y) (k : LeL L L') : LeL (X :: L) (Y :: L')
section
variable {P : Program} {n : Nat} {w0 w : World} {f0 : FP} {ops : Array Oper} {m : Bool} {QC : Exit → Fr → World → Prop} {f : Fr} {L L' : List HP} {c : Code} {lo : List Oper} {e : Exit} {X Y : HP} {α : Type} {F : α → HP}
theorem SF.le : ∀ {L L' : List HP} {w : World} {g : FP}, LeL L L' → SF L w g → SF L' w g
  | [], [], _, _, _, h => h
  | X :: L, Y :: L', w, g, .cons hx hl, h => by
    obtain ⟨f1, f2, e1, e2, e3, e4⟩ := h
    exact ⟨f1, f2, e1, e2, hx _ _ e3, SF.le hl e4⟩
theorem HP.le.star {l l' : List HP} (h : LeL l l') : HP.le (star l) (star l') := fun w g q => SF.le (show LeL l l' from h) q
theorem forall₂_map {β : Type} {F G : β → HP} : ∀ (l : List β), (∀ x ∈ l, HP.le (F x) (G x)) → LeL (l.map F) (l.map G)
  | [], _ => .nil
  | x :: l, h => .cons (h x (by simp)) (forall₂_map l fun y hy => h y (by simp [hy]))
theorem HP.le.stars {β : Type} {F G : β → HP} {l : List β} (h : ∀ x ∈ l, HP.le (F x) (G x)) : HP.le (Go.Proofs.Ytfplmdjlgjgbgaa.star (l.map F)) (Go.Proofs.Ytfplmdjlgjgbgaa.star (l.map G)) := HP.le.star (forall₂_map l h)
theorem PSub.les (h : LeL L L') : PSub w0 f0 L L' := fun w H => by
  obtain ⟨g, hg, hb⟩ := H.sf
  exact ⟨H.step, g, SF.le h hg, hb⟩
theorem forall₂_refl : ∀ (l : List HP), LeL l l
  | [] => .nil
  | x :: l => .cons (HP.le.refl x) (forall₂_refl l)
theorem PSub.le1 (h : HP.le X Y) : PSub w0 f0 (X :: L) (Y :: L) := PSub.les (.cons h (forall₂_refl L))
theorem PSub.exI (x : α) : PSub w0 f0 (F x :: L) (exH F :: L) := PSub.le1 (HP.le.ex x)
theorem St.exE (H : St w0 f0 (exH F :: L) w) : ∃ x, St w0 f0 (F x :: L) w := by
  obtain ⟨g, ⟨f1, f2, e1, e2, ⟨x, e3⟩, e4⟩, hb⟩ := H.sf
  exact ⟨x, H.step, g, ⟨f1, f2, e1, e2, e3, e4⟩, hb⟩
theorem s_ex (h : ∀ x, sC P n w0 f0 c QC f (F x :: L)) : sC P n w0 f0 c QC f (exH F :: L) := fun w H => by
  obtain ⟨x, H⟩ := H.exE
  exact h x w H
theorem so_ex (h : ∀ x, sO P n w0 f0 ops m lo QC f (F x :: L)) : sO P n w0 f0 ops m lo QC f (exH F :: L) := fun w H => by
  obtain ⟨x, H⟩ := H.exE
  exact h x w H
end
end Go.Proofs.Ytfplmdjlgjgbgaa
