/- Rows of rows that grow; masks. -/
import Derived.Test.YtfplmdjlgjgbgaaA6
namespace Go.Proofs.Ytfplmdjlgjgbgaa
set_option linter.unusedVariables false
set_option linter.unusedSimpArgs false
open Go Go.RowKit

theorem and_mask (a : Int) (c : Nat) (hc : c < 2 ^ 63) : ∃ r : Nat, r ≤ c ∧ IntKind.i64.wrap ((BitVec.ofInt IntKind.i64.bits a &&& BitVec.ofInt IntKind.i64.bits (c : Int)).toNat : Int) = (r : Int) := by
  refine ⟨(BitVec.ofInt IntKind.i64.bits a &&& BitVec.ofInt IntKind.i64.bits (c : Int)).toNat, ?_, ?_⟩
  · rw [BitVec.toNat_and]
    refine Nat.le_trans Nat.and_le_right ?_
    have : (BitVec.ofInt IntKind.i64.bits (c : Int)).toNat = c := by
      rw [BitVec.ofInt_natCast, BitVec.toNat_ofNat]
      exact Nat.mod_eq_of_lt (Nat.lt_of_lt_of_le hc (by decide))
    omega
  · have h1 : (BitVec.ofInt IntKind.i64.bits a &&& BitVec.ofInt IntKind.i64.bits (c : Int)).toNat ≤ c := by
      rw [BitVec.toNat_and]
      refine Nat.le_trans Nat.and_le_right ?_
      have : (BitVec.ofInt IntKind.i64.bits (c : Int)).toNat = c := by
        rw [BitVec.ofInt_natCast, BitVec.toNat_ofNat]
        exact Nat.mod_eq_of_lt (Nat.lt_of_lt_of_le hc (by decide))
      omega
    exact i64_in _ (by omega)
section
variable {P : Program} {n : Nat} {w0 w : World} {f0 : FP} {ops : Array Oper} {m : Bool} {rest : List Oper} {QC : Exit → Fr → World → Prop} {f : Fr} {L : List HP} {x y : Operand} {d : Tmp} {ty t yt e e1 : TypeId} {pos : String} {after : Array Edge}
theorem s_andM {a : Int} {c : Nat} (hx : ev f x = .int .i64 a) (hy : ev f y = .int .i64 (c : Int)) (hc : c < 2 ^ 63) (hn : ∀ r : Nat, r ≤ c → sO P n w0 f0 ops m rest QC (up f d (.int .i64 (r : Int))) L) (hd : Nat.blt d n = true := by rfl) : sO P n w0 f0 ops m (⟨some d, .binOp .and t x y yt, ty, pos, after, none⟩ :: rest) QC f L := by
  obtain ⟨r, hr, he⟩ := and_mask a c hc
  refine s_and hx hy ?_ hd
  rw [he]; exact hn r hr
variable {α : Type} [I : Enc α]
theorem PSub.join {A : Option Addr} {l c : Nat} {xs : List α} {ss : List (Sl α)} (hl : xs.length = l) : PSub w0 f0 (rws e ss :: own e A l c xs :: L) (rws e (ss ++ [⟨A, c, xs⟩]) :: L) := by
  intro w H
  subst hl
  have h1 : St w0 f0 ([own e A xs.length c xs] ++ (L ++ [rws e ss])) w := by
    have h2 : St w0 f0 ([rws e ss] ++ (own e A xs.length c xs :: L)) w := H
    have := h2.rot
    exact this
  have h2 : St w0 f0 ((L ++ [rws e ss]) ++ [own e A xs.length c xs]) w := h1.rot
  have h3 := h2.more L.length (Ls := ss.map fun s => own e s.A s.xs.length s.c s.xs) (by rw [List.getElem?_append_right (Nat.le_refl _), Nat.sub_self]; rfl)
  rw [List.set_append_right _ _ (Nat.le_refl _), Nat.sub_self] at h3
  have h4 : St w0 f0 (L ++ [rws e (ss ++ [⟨A, c, xs⟩])]) w := by
    have e2 : star ((ss.map fun s => own e s.A s.xs.length s.c s.xs) ++ [own e A xs.length c xs]) = rws e (ss ++ [⟨A, c, xs⟩]) := by unfold rws; rw [List.map_append]; rfl
    rw [← e2]; exact h3
  exact h4.head
theorem PSub.joinNil {ss : List (Sl α)} : PSub w0 f0 (rws e ss :: L) (rws e (ss ++ [⟨none, 0, []⟩]) :: L) := by
  intro w H
  have h := H.addNil e I.sz
  have h2 : St w0 f0 (rws e ss :: own e none 0 0 ([] : List α) :: L) w := by
    have h3 : St w0 f0 ((rws e ss :: L) ++ [own e none 0 0 ([] : List α)]) w := h
    have h4 : St w0 f0 ([own e none 0 0 ([] : List α)] ++ (rws e ss :: L)) w := h3.rot
    have := h4.pick [1, 0]
    exact this
  exact PSub.join rfl w h2
theorem PSub.nilOwn (e : TypeId) : PSub w0 f0 L (own e none 0 0 ([] : List α) :: L) := fun w H => (H.addNil e I.sz).head
theorem PSub.eq {L L2 : List HP} (h : L = L2) : PSub w0 f0 L L2 := fun w H => h ▸ H
theorem PSub.nilRws (e : TypeId) : PSub w0 f0 L (rws e ([] : List (Sl α)) :: L) := fun w H => H.star0.head
theorem St.rdRows [D : Dp α] {A : Option Addr} {l c : Nat} {ss : List (Sl α)} {put : HP → List HP} (H : St w0 f0 L w) (i : Nat) (hi : L[i]? = some (rws e ss)) [h : Pc L A (own e1 A l c ss) put] (hd : ∀ s ∈ ss, ∀ x ∈ s.xs, D.rd (okOf w fun _ => False) w x) : ss.length = l ∧ RdD (okOf w fun _ => False) w (⟨A, c, ss⟩ : Sl (Sl α)) := by
  obtain ⟨h1, h2⟩ := H.rdO (A := A)
  refine ⟨h1, ⟨h2, fun s hs => ⟨?_, hd s hs⟩⟩⟩
  obtain ⟨j, hj⟩ := List.getElem?_of_mem hs
  exact H.rdStar i hi j (e := e) (by rw [List.getElem?_map, hj]; rfl)
end
end Go.Proofs.Ytfplmdjlgjgbgaa
