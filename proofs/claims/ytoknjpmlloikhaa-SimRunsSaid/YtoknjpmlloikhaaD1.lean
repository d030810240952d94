/- Many maps in one piece (as in seat 12's Q3, Q12, Q23). -/
import Derived.Test.YtoknjpmlloikhaaA10
import Derived.Test.YtoknjpmlloikhaaInst
namespace Go.Proofs.Ytoknjpmlloikhaa
set_option linter.unusedVariables false
set_option linter.unusedSimpArgs false
open Go Go.RowKit

def updB {α : Type} (F : Nat → α) (b : Nat) (x : α) : Nat → α := fun j => if j = b then x else F j
theorem updB_same {α : Type} {F : Nat → α} {b : Nat} {x : α} : updB F b x b = x := if_pos rfl
theorem updB_ne {α : Type} {F : Nat → α} {b j : Nat} {x : α} (h : j ≠ b) : updB F b x j = F j := if_neg h
theorem updB_self {α : Type} {F : Nat → α} {b : Nat} : updB F b (F b) = F := by funext j; unfold updB; split <;> simp [*]
section
variable {e kt : TypeId} {α : Type} (E : EK Try.prog e α) (kt : TypeId)
/-- Many maps: the first k. -/
noncomputable def bagG (U : Nat → Nat) (k : Nat) (mi : Nat → Nat) (F : Nat → Int → Option α) : HP := star ((List.range k).map fun j => mp E kt (mi j) (U j) (F j))
/-- .. one of which is taken out. -/
noncomputable def bagGX (U : Nat → Nat) (k : Nat) (mi : Nat → Nat) (F : Nat → Int → Option α) (b : Nat) : HP := star (((List.range k).map fun j => mp E kt (mi j) (U j) (F j)).eraseIdx b)
end
section
variable {e kt : TypeId} {α : Type} {E : EK Try.prog e α} {w0 : World} {f0 : FP} {L : List HP} {k : Nat} {U mi : Nat → Nat} {F : Nat → Int → Option α}
theorem PSub.bagG0 : PSub w0 f0 L (bagG E kt U 0 mi F :: L) := PSub.starNil
theorem PSub.bagGnew {b : Nat} {G : Int → Option α} : PSub w0 f0 (mp E kt b (U k) G :: bagG E kt U k mi F :: L) (bagG E kt U (k + 1) (updB mi k b) (updB F k G) :: L) := by
  have h := PSub.starNew (w0 := w0) (f0 := f0) (L := L) (ps := (List.range k).map fun j => mp E kt (mi j) (U j) (F j)) (R := mp E kt b (U k) G)
  have e : bagG E kt U (k + 1) (updB mi k b) (updB F k G) = star (((List.range k).map fun j => mp E kt (mi j) (U j) (F j)) ++ [mp E kt b (U k) G]) := by
    unfold bagG
    rw [List.range_succ, List.map_append, List.map_singleton, updB_same, updB_same]
    congr 2
    refine List.map_congr_left fun j hj => ?_
    have := List.mem_range.1 hj
    rw [updB_ne (by omega), updB_ne (by omega)]
  rw [e]; exact h
theorem PSub.bagGout {b : Nat} (hb : b < k) : PSub w0 f0 (bagG E kt U k mi F :: L) (mp E kt (mi b) (U b) (F b) :: bagGX E kt U k mi F b :: L) := PSub.starOut (by rw [List.getElem?_map, List.getElem?_range hb]; rfl)
theorem PSub.bagGin {b : Nat} {G : Int → Option α} (hb : b < k) : PSub w0 f0 (mp E kt (mi b) (U b) G :: bagGX E kt U k mi F b :: L) (bagG E kt U k mi (updB F b G) :: L) := by
  have h := PSub.starIn (w0 := w0) (f0 := f0) (L := L) (ps := (List.range k).map fun j => mp E kt (mi j) (U j) (F j)) (R := mp E kt (mi b) (U b) G) (j := b) (by simpa using hb)
  have e : bagG E kt U k mi (updB F b G) = star (((List.range k).map fun j => mp E kt (mi j) (U j) (F j)).set b (mp E kt (mi b) (U b) G)) := by
    unfold bagG
    congr 1
    apply List.ext_getElem?
    intro j
    rw [List.getElem?_map]
    by_cases e : j = b
    · subst e
      rw [List.getElem?_set_self (by simpa using hb), List.getElem?_range hb]
      simp only [Option.map_some, updB_same]
    · rw [List.getElem?_set_ne (Ne.symm e), List.getElem?_map]
      rcases Nat.lt_or_ge j k with h | h
      · rw [List.getElem?_range h]; simp only [Option.map_some, updB_ne e]
      · rw [List.getElem?_eq_none (by simpa using h)]; rfl
  rw [e]; exact h
theorem PSub.bagGback {b : Nat} (hb : b < k) : PSub w0 f0 (mp E kt (mi b) (U b) (F b) :: bagGX E kt U k mi F b :: L) (bagG E kt U k mi F :: L) := by
  have h := PSub.bagGin (w0 := w0) (f0 := f0) (L := L) (U := U) (mi := mi) (F := F) (G := F b) (E := E) (kt := kt) hb
  rw [updB_self] at h
  exact h
end
section
variable {n : Nat} {w0 : World} {f0 : FP} {ops : Array Oper} {m : Bool} {rest : List Oper} {QC : Exit → Fr → World → Prop} {f : Fr} {L : List HP} {x y : Operand} {d : Tmp} {ty t e kt : TypeId} {pos : String} {after : Array Edge}
variable {α : Type} {E : EK Try.prog e α} {U mi : Nat → Nat} {k b : Nat} {F : Nat → Int → Option α} {key : Int}
/-- A map of many is read. -/
theorem s_lookG [hm : MpT Try.prog t kt e] [he : Ekc Try.prog e α E] (i : Nat) (hi : L[i]? = some (bagG E kt U k mi F)) (hb : b < k) {v : Option Nat} (hv : v = some (mi b)) (hx : ev f x = .map v) (hy : ev f y = .int .i64 key) [hw : RdD (okOf w0 f0) w0 key] (hn : sO Try.prog n w0 f0 ops m rest QC (up f d (E.enc ((F b key).getD E.zero))) L) (hd : Nat.blt d n = true := by rfl) : sO Try.prog n w0 f0 ops m (⟨some d, .lookup t x y false, ty, pos, after, none⟩ :: rest) QC f L := by
  subst hv
  intro w H
  obtain ⟨f1, hA, _, _⟩ := H.focus i hi
  obtain ⟨g1, h1, _⟩ := star_at hA (i := b) (X := mp E kt (mi b) (U b) (F b)) (by rw [List.getElem?_map, List.getElem?_range hb]; rfl)
  refine o_pure (v := E.enc ((F b key).getD E.zero)) rfl hd ?_ (hn w H)
  simp [execOp, hx, hy, h1.2.look hm.k hm.u (he.z w) (RdD.int hw)]
end
theorem Ctx.bagGRd {e : TypeId} {α : Type} {E : EK Try.prog e α} {kt : TypeId} {w0 w1 : World} {f0 f1 : FP} {L1 L2 : List HP} {U mi : Nat → Nat} {k b : Nat} {F : Nat → Int → Option α} (C : Ctx w0 f0 L1 L2 w1 f1) (i : Nat) (hi : L2[i]? = some (bagG E kt U k mi F)) (hb : b < k) : RdM E kt (okOf w1 f1) w1 (some (mi b)) (U b) (F b) := by
  obtain ⟨g, hA, hg⟩ := C.piece hi
  obtain ⟨g1, h1, h2⟩ := star_at hA (i := b) (X := mp E kt (mi b) (U b) (F b)) (by rw [List.getElem?_map, List.getElem?_range hb]; rfl)
  exact .inr ⟨mi b, rfl, hg _ (h2 _ ((h1.1 _).2 rfl)), h1.2⟩
end Go.Proofs.Ytoknjpmlloikhaa
