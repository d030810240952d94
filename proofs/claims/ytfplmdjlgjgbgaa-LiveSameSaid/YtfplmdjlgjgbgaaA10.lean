/- A map of the call's own that changes while it is gone over. -/
import Derived.Test.YtfplmdjlgjgbgaaA9
namespace Go.Proofs.Ytfplmdjlgjgbgaa
set_option linter.unusedVariables false
set_option linter.unusedSimpArgs false
open Go Go.RowKit Go.Maps Go.ChangeMaps
open Go.WideElems (Fit rg)

def Says {P : Program} {e : TypeId} {α : Type} (E : EK P e α) (D : DataW Unit) (f : Int → Option α) : Prop :=
  (∀ k, f k ≠ none → wfi k) ∧ (∀ k x, f k = some x → E.good x) ∧ ∀ k, wfi k → Maps.has D (.int .i64 k) = (f k).isSome ∧ ∀ z, D.atKey (.int .i64 k) z = ((f k).map E.dat).getD z

/-- The map, and the iterator over it. -/
def rgD {P : Program} {e : TypeId} {α : Type} (E : EK P e α) (kt : TypeId) (b r N : Nat) (F : Int → Option α) (todo : Int → Bool) (cnt : Nat) : HP where
  sat w g := (∀ x, g x ↔ x = b ∨ x = r) ∧ ∃ D left, w.ranges P kt (plainElem (H := Unit) P e) b r N D left cnt ∧ Says E D F ∧ ∀ k, wfi k → left (.int .i64 k) = todo k
  loc := fun {w w' g} ⟨h1, D, left, ⟨es, clock, since, seen, c0, q1, q2, q3, q4, q5, q6⟩, h3⟩ hk => ⟨h1, D, left, ⟨es, clock, since, seen, c0, (hk b ((h1 b).2 (.inl rfl))).trans q1, q2, q3, q4, (hk r ((h1 r).2 (.inr rfl))).trans q5, q6⟩, h3⟩
  dom := fun {w g} ⟨h1, D, left, h2, h3⟩ x hx => by
    rcases (h1 x).1 hx with rfl | rfl
    · exact h2.owns.lt
    · exact h2.lt
/-- Behind a step. -/
def rgE {P : Program} {e : TypeId} {α : Type} (E : EK P e α) (kt : TypeId) (b r N : Nat) (F : Int → Option α) (todo : Int → Bool) (cnt : Nat) (tup : Value) : HP where
  sat w g := (rgD E kt b r N F todo cnt).sat w g ∧ (Instr.entry (.pointer (some ⟨r, 0, none⟩))).run P w = .ok tup w ∧ ∀ w', w'.heap[b]? = w.heap[b]? → w'.heap[r]? = w.heap[r]? → (Instr.entry (.pointer (some ⟨r, 0, none⟩))).run P w' = .ok tup w'
  loc := fun {w w' g} ⟨h1, h2, h3⟩ hk => ⟨(rgD E kt b r N F todo cnt).loc h1 hk, h3 w' (hk b ((h1.1 b).2 (.inl rfl))) (hk r ((h1.1 r).2 (.inr rfl))), fun w'' e1 e2 => h3 w'' (e1.trans (hk b ((h1.1 b).2 (.inl rfl)))) (e2.trans (hk r ((h1.1 r).2 (.inr rfl))))⟩
  dom := fun {w g} ⟨h1, _⟩ => (rgD E kt b r N F todo cnt).dom h1

section
variable {P : Program} {n : Nat} {md : Bool} {ops : Array Oper} {rest : List Oper} {f : Fr} {w w0 : World} {f0 : FP} {L : List HP} {QC : Exit → Fr → World → Prop} {Q : Fr → World → Prop}
variable {d : Tmp} {x y z : Operand} {ty t kt e : TypeId} {pos : String} {after : Array Edge} {α : Type} {E : EK P e α} {N : Nat} {F : Int → Option α}
variable {b r cnt : Nat} {todo : Int → Bool} {k : Int} {tup : Value}

theorem rgD.isM {g : FP} (h : (rgD E kt b r N F todo cnt).sat w g) : IsM E kt w b N F := by
  obtain ⟨_, D, left, h2, h3, _⟩ := h
  exact ⟨D, h2.owns, h3⟩
theorem rgE.plain {g : FP} (h : (rgE E kt b r N F todo cnt tup).sat w g) : (rgD E kt b r N F todo cnt).sat w g := h.1
theorem entry_loc {w' : World} {es : Array MapEntry} {clock since c0 : Nat} {seen : Array Nat} {v : Value} (hb : w.heap[b]? = some (.map es clock)) (hr : w.heap[r]? = some (.mapIter (some b) since seen c0))
    (h : (Instr.entry (.pointer (some ⟨r, 0, none⟩))).run P w = .ok v w) (hb' : w'.heap[b]? = w.heap[b]?) (hr' : w'.heap[r]? = w.heap[r]?) : (Instr.entry (.pointer (some ⟨r, 0, none⟩))).run P w' = .ok v w' := by
  rw [hb] at hb'
  rw [hr] at hr'
  simp only [Instr.entry, getObj, Sem.run_bind, Sem.run, hr, Result.andThen] at h
  simp only [Instr.entry, getObj, Sem.run_bind, Sem.run, hr', Result.andThen]
  cases hs : seen.back? with
  | none => simp [hs] at h
  | some stamp =>
    simp only [hs, Sem.run_bind, Sem.run, hb, Result.andThen] at h
    simp only [Sem.run_bind, Sem.run, hb', Result.andThen]
    by_cases hc : (clock != c0) = true
    · simp [hc] at h
    · simp only [hc] at h ⊢
      cases he : es.find? (·.born == stamp) with
      | none => simp [he] at h
      | some x =>
        simp [he] at h ⊢
        exact h

theorem o_rangeD (hk : P.underlying kt = some (.int .i64)) (ht : P.underlying t = some (.map kt e)) (H : St w0 f0 L w) (i : Nat) (hi : L[i]? = some (mp E kt b N F)) (hx : ev f x = .map (some b))
    (h : ∀ cnt r w', St w0 f0 (L.set i (rgD E kt b r N F (fun k => (F k).isSome) cnt)) w' → wO P ops n false rest Q (up f d (.pointer (some ⟨r, 0, none⟩))) w') (hd : Nat.blt d n = true := by rfl) :
    wO P ops n false (⟨some d, .range t x, ty, pos, after, none⟩ :: rest) Q f w := by
  obtain ⟨f1, hA, _, hB⟩ := H.focus i hi
  obtain ⟨hg, D, hown, hS⟩ := hA
  obtain ⟨w', hrun, hrg, hgr, hsz⟩ := hown.range (int_keyed hk) ht
  refine o_val (w' := w') (v := .pointer (some ⟨w.heap.size, 0, none⟩)) rfl hd ?_ (h (Maps.size D) w.heap.size w' (hB w' _ (fun x => x = b ∨ x = w.heap.size) (Step.grown hgr fun b hb => by cases hb) ⟨fun _ => Iff.rfl, D, _, hrg, hS, fun k hw => (hS.2.2 k hw).1⟩ fun x hx => ?_))
  · simp [execOp, hx, hrun]
  · rcases hx with rfl | rfl
    · exact .inl ((hg _).2 rfl)
    · exact .inr (Nat.le_refl _)
theorem o_nextD (hk : P.underlying kt = some (.int .i64)) (H : St w0 f0 L w) (i : Nat) (hi : L[i]? = some (rgD E kt b r N F todo cnt)) (hx : ev f x = .pointer (some ⟨r, 0, none⟩))
    (h0 : ∀ w', (∀ k, F k ≠ none → todo k = false) → St w0 f0 (L.set i (mp E kt b N F)) w' → wO P ops n false rest Q (up f d (.tuple #[.bool false])) w')
    (h1 : ∀ k x w' cnt', wfi k → E.good x → todo k = true → F k = some x → cnt' < cnt → St w0 f0 (L.set i (rgE E kt b r N F (fun j => todo j && j != k) cnt' (.tuple #[.int .i64 k, E.enc x]))) w' → wO P ops n false rest Q (up f d (.tuple #[.bool true, .int .i64 k, E.enc x])) w')
    (hd : Nat.blt d n = true := by rfl) : wO P ops n false (⟨some d, .next x false, ty, pos, after, none⟩ :: rest) Q f w := by
  obtain ⟨f1, hA, _, hB⟩ := H.focus i hi
  obtain ⟨hg, D, left, hrg, hS, hl⟩ := hA
  rcases hrg.next (int_keyed hk) ty with ⟨_, a1, a2⟩ | ⟨key, vv, kl, y, w', cnt', hkey, hlk, hv, hat, hrun, hrg', hlt, hgr, hsz, hen⟩
  · refine o_val (w' := w) (v := .tuple #[.bool false]) rfl hd ?_ (h0 w (fun k hkk => by rw [← hl k (hS.1 k hkk)]; exact a1 _) (hB w _ (fun x => x = b) (Step.refl _ _) ⟨fun _ => Iff.rfl, D, hrg.owns, hS⟩ fun x hx => .inl ((hg x).2 (.inl hx))))
    simp [execOp, hx, a2]
  · obtain ⟨k, rfl, rfl, hkw⟩ := keyOf_int_inv hk hkey
    have hkw := wfi_iff.2 hkw
    obtain ⟨x', hx1, rfl, rfl⟩ := E.inv _ _ hv
    have hF : F k = some x' := by
      have h1 := (hS.2.2 k hkw).2
      cases hFk : F k with
      | none =>
        exfalso
        have a1 := hat (.lit (.bool true))
        have a2 := hat (.lit (.bool false))
        rw [h1, hFk] at a1 a2
        have := a1.trans a2.symm
        cases this
      | some x2 =>
        have a1 := hat (.lit (.bool true))
        rw [h1, hFk] at a1
        rw [E.inj _ _ a1]
    have hs : Step w f1 w' := Step.grown hgr fun b hb => by cases hb; exact (hg _).2 (.inr rfl)
    have hD : (rgD E kt b r N F (fun j => todo j && j != k) cnt').sat w' f1 := ⟨hg, D, _, hrg', hS, fun j hj => by
      show (left (.int .i64 j) && !(Lit.int .i64 j).sameKey (.int .i64 k)) = _
      rw [hl j hj, sameKey_i]; rfl⟩
    obtain ⟨es', clock', since', seen', c0', q1, q2, q3, q4, q5, q6⟩ := hrg'
    refine o_val (w' := w') (v := .tuple #[.bool true, .int .i64 k, E.enc x']) rfl hd ?_ (h1 k x' w' cnt' hkw hx1 (by rw [← hl k hkw]; exact hlk) hF hlt (hB w' _ f1 hs ⟨hD, hen, fun w'' e1 e2 => entry_loc q1 q5 hen e1 e2⟩ fun b hb => .inl hb))
    simp [execOp, hx, hrun]
theorem o_delD {dd : Option Tmp} (hk : P.underlying kt = some (.int .i64)) (ht : P.underlying t = some (.map kt e)) (H : St w0 f0 L w) (i : Nat) (hi : L[i]? = some (rgD E kt b r N F todo cnt))
    (hx : ev f x = .map (some b)) (hy : ev f y = .int .i64 k) (hw : wfi k) (h : ∀ w' cnt', cnt' ≤ cnt → St w0 f0 (L.set i (rgD E kt b r N (upd F k none) (fun j => todo j && j != k) cnt')) w' → wO P ops n false rest Q (upO f dd (.tuple #[])) w') (hd : dOk n dd = true := by rfl) :
    wO P ops n false (⟨dd, .call { callee := .builtin .delete, args := #[x, y], argTypes := #[t, kt] }, ty, pos, after, none⟩ :: rest) Q f w := by
  obtain ⟨f1, hA, _, hB⟩ := H.focus i hi
  obtain ⟨hg, D, left, hrg, hS, hl⟩ := hA
  obtain ⟨w', cnt', hrun, hrg', hle, hmt⟩ := hrg.drop (int_keyed hk) ht (keyOf_int_mk hk (wfi_iff.1 hw)) ty
  obtain ⟨hf1, hf2, hD⟩ := hS
  refine o_val (w' := w') (v := .tuple #[]) rfl hd ?_ (h w' cnt' hle (hB w' _ f1 (Step.grown hmt.grown fun b' hb' => by cases hb'; exact (hg _).2 (.inl rfl)) ⟨hg, _, _, hrg', ⟨?_, ?_, ?_⟩, fun j hj => ?_⟩ fun b hb => .inl hb))
  · simp [execOp, resolve, invoke, builtin, hx, hy, hrun]
  · intro j hj
    by_cases e1 : j = k
    · subst e1; exact hw
    · rw [upd_other F e1] at hj; exact hf1 j hj
  · intro j x hj
    by_cases e1 : j = k
    · subst e1; rw [upd_same] at hj; cases hj
    · rw [upd_other F e1] at hj; exact hf2 j x hj
  · intro j hj
    by_cases e1 : j = k
    · subst e1
      rw [upd_same]
      exact ⟨by rw [has_del_same]; rfl, fun z => by rw [atKey_del_same]; rfl⟩
    · rw [upd_other F e1]
      obtain ⟨hh, hat⟩ := hD j hj
      exact ⟨by rw [has_del_other (lit_ne e1)]; exact hh, fun z => by rw [atKey_del_other (lit_ne e1)]; exact hat z⟩
  · show (left (.int .i64 j) && !(Lit.int .i64 j).sameKey (.int .i64 k)) = _
    rw [hl j hj, sameKey_i]; rfl
end

/-! in the newer layer -/
class PcG (L : List HP) (r : Nat) (X : outParam HP) (put : outParam (HP → List HP)) : Prop where
  at_ : ∃ i, L[i]? = some X ∧ ∀ Y, put Y = L.set i Y
class PcH (L : List HP) (b : Nat) (X : outParam HP) (put : outParam (HP → List HP)) : Prop where
  at_ : ∃ i, L[i]? = some X ∧ ∀ Y, put Y = L.set i Y
section
variable {P : Program} {n : Nat} {m : Bool} {ops : Array Oper} {rest : List Oper} {f : Fr} {w w0 : World} {f0 : FP} {L : List HP} {QC : Exit → Fr → World → Prop}
variable {d : Tmp} {x y z : Operand} {ty t kt e : TypeId} {pos : String} {after : Array Edge} {α : Type} {E : EK P e α} {N : Nat} {F : Int → Option α}
variable {b r cnt : Nat} {todo : Int → Bool} {k : Int} {tup : Value} {B X : HP} {put : HP → List HP}
instance (priority := high) pcg_here : PcG (rgD E kt b r N F todo cnt :: L) r (rgD E kt b r N F todo cnt) (fun Y => Y :: L) := ⟨0, rfl, fun _ => rfl⟩
instance (priority := high) pcg_hereE : PcG (rgE E kt b r N F todo cnt tup :: L) r (rgE E kt b r N F todo cnt tup) (fun Y => Y :: L) := ⟨0, rfl, fun _ => rfl⟩
instance pcg_next [h : PcG L r X put] : PcG (B :: L) r X (fun Y => B :: put Y) := by
  obtain ⟨i, h1, h2⟩ := h.at_; exact ⟨i + 1, h1, fun Y => by rw [h2]; rfl⟩
instance (priority := high) pch_here : PcH (rgD E kt b r N F todo cnt :: L) b (rgD E kt b r N F todo cnt) (fun Y => Y :: L) := ⟨0, rfl, fun _ => rfl⟩
instance pch_next [h : PcH L b X put] : PcH (B :: L) b X (fun Y => B :: put Y) := by
  obtain ⟨i, h1, h2⟩ := h.at_; exact ⟨i + 1, h1, fun Y => by rw [h2]; rfl⟩

theorem s_rangeD [hm : MpT P t kt e] (hx : ev f x = .map (some b)) [h : PcM L b (mp E kt b N F) put]
    (hn : ∀ cnt r, sO P n w0 f0 ops false rest QC (up f d (.pointer (some ⟨r, 0, none⟩))) (put (rgD E kt b r N F (fun k => (F k).isSome) cnt))) (hd : Nat.blt d n = true := by rfl) : sO P n w0 f0 ops false (⟨some d, .range t x, ty, pos, after, none⟩ :: rest) QC f L := by
  intro w H
  obtain ⟨i, hi, hp⟩ := h.at_
  exact o_rangeD hm.k hm.u H i hi hx (fun cnt r w' H' => hn cnt r w' (by rw [hp]; exact H')) hd
theorem s_nextD (hk : P.underlying kt = some (.int .i64)) (hx : ev f x = .pointer (some ⟨r, 0, none⟩)) [h : PcG L r (rgD E kt b r N F todo cnt) put]
    (h0 : (∀ k, F k ≠ none → todo k = false) → sO P n w0 f0 ops false rest QC (up f d (.tuple #[.bool false])) (put (mp E kt b N F)))
    (h1 : ∀ k x cnt', wfi k → E.good x → todo k = true → F k = some x → cnt' < cnt → sO P n w0 f0 ops false rest QC (up f d (.tuple #[.bool true, .int .i64 k, E.enc x])) (put (rgE E kt b r N F (fun j => todo j && j != k) cnt' (.tuple #[.int .i64 k, E.enc x]))))
    (hd : Nat.blt d n = true := by rfl) : sO P n w0 f0 ops false (⟨some d, .next x false, ty, pos, after, none⟩ :: rest) QC f L := by
  intro w H
  obtain ⟨i, hi, hp⟩ := h.at_
  exact o_nextD hk H i hi hx (fun w' hf H' => h0 hf w' (by rw [hp]; exact H')) (fun k x w' cnt' a1 a2 a3 a4 a5 H' => h1 k x cnt' a1 a2 a3 a4 a5 w' (by rw [hp]; exact H')) hd
theorem s_entryD (hx : ev f x = .pointer (some ⟨r, 0, none⟩)) [h : PcG L r (rgE E kt b r N F todo cnt tup) put]
    (hn : sO P n w0 f0 ops m rest QC (up f d tup) (put (rgD E kt b r N F todo cnt))) (hd : Nat.blt d n = true := by rfl) : sO P n w0 f0 ops m (⟨some d, .entry x, ty, pos, after, none⟩ :: rest) QC f L := by
  intro w H
  obtain ⟨i, hi, hp⟩ := h.at_
  obtain ⟨f1, hA, _, _⟩ := H.focus i hi
  refine o_entry hx hA.2.1 (hn w ?_) hd
  rw [hp]; exact H.turn i hi fun g hg => hg.1
theorem s_delD [hm : MpT P t kt e] (hx : ev f x = .map (some b)) (hy : ev f y = .int .i64 k) [h : PcH L b (rgD E kt b r N F todo cnt) put] [hw : RdD (okOf w0 f0) w0 k]
    (hn : ∀ cnt', cnt' ≤ cnt → sO P n w0 f0 ops false rest QC (up f d (.tuple #[])) (put (rgD E kt b r N (upd F k none) (fun j => todo j && j != k) cnt'))) (hd : Nat.blt d n = true := by rfl) : sO P n w0 f0 ops false (⟨some d, .call { callee := .builtin .delete, args := #[x, y], argTypes := #[t, kt] }, ty, pos, after, none⟩ :: rest) QC f L := by
  intro w H
  obtain ⟨i, hi, hp⟩ := h.at_
  exact o_delD hm.k hm.u H i hi hx hy (RdD.int hw) (fun w' cnt' h1 H' => hn cnt' h1 w' (by rw [hp]; exact H')) hd
theorem s_delD0 [hm : MpT P t kt e] (hx : ev f x = .map (some b)) (hy : ev f y = .int .i64 k) [h : PcH L b (rgD E kt b r N F todo cnt) put] [hw : RdD (okOf w0 f0) w0 k]
    (hn : ∀ cnt', cnt' ≤ cnt → sO P n w0 f0 ops false rest QC f (put (rgD E kt b r N (upd F k none) (fun j => todo j && j != k) cnt'))) : sO P n w0 f0 ops false (⟨none, .call { callee := .builtin .delete, args := #[x, y], argTypes := #[t, kt] }, ty, pos, after, none⟩ :: rest) QC f L := by
  intro w H
  obtain ⟨i, hi, hp⟩ := h.at_
  exact o_delD hm.k hm.u H i hi hx hy (RdD.int hw) (fun w' cnt' h1 H' => hn cnt' h1 w' (by rw [hp]; exact H')) rfl
theorem s_lookD [hm : MpT P t kt e] [he : Ekc P e α E] (hx : ev f x = .map (some b)) (hy : ev f y = .int .i64 k) [h : PcH L b (rgD E kt b r N F todo cnt) put] [hw : RdD (okOf w0 f0) w0 k] (hn : sO P n w0 f0 ops m rest QC (up f d (E.enc ((F k).getD E.zero))) L) (hd : Nat.blt d n = true := by rfl) : sO P n w0 f0 ops m (⟨some d, .lookup t x y false, ty, pos, after, none⟩ :: rest) QC f L := by
  intro w H
  obtain ⟨i, hi, _⟩ := h.at_
  obtain ⟨f1, hA, _, _⟩ := H.focus i hi
  refine o_pure (v := E.enc ((F k).getD E.zero)) rfl hd ?_ (hn w H)
  simp [execOp, hx, hy, (rgD.isM hA).look hm.k hm.u (he.z w) (RdD.int hw)]
end
end Go.Proofs.Ytfplmdjlgjgbgaa
