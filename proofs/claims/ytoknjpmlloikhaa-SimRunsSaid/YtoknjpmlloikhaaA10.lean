/- A map of the call's own that changes while it is gone over. -/
import Derived.Test.YtoknjpmlloikhaaA6
namespace Go.Proofs.Ytoknjpmlloikhaa
set_option linter.unusedVariables false
set_option linter.unusedSimpArgs false
open Go Go.RowKit Go.Maps Go.ChangeMaps
open Go.WideElems (Fit rg)

def Says {P : Program} {e : TypeId} {α : Type} (E : EK P e α) (D : DataW Unit) (f : Int → Option α) : Prop :=
  (∀ k, f k ≠ none → wfi k) ∧ (∀ k x, f k = some x → E.good x) ∧ ∀ k, wfi k → Maps.has D (.int .i64 k) = (f k).isSome ∧ ∀ z, D.atKey (.int .i64 k) z = ((f k).map E.dat).getD z

/-- The map, and the iterator over it. -/
def rgD {P : Program} {e : TypeId} {α : Type} (E : EK P e α) (kt : TypeId) (b r N : Nat) (F : Int → Option α) (todo : Int → Bool) (cnt : Nat) : HP where
  sat w g := (∀ x, g x ↔ x = b ∨ x = r) ∧ ∃ D left, w.ranges P kt (plainElem (H := Unit) P e) b r N D left cnt ∧ Says E D F ∧ ∀ k, wfi k → left (.int .i64 k) = todo k
  loc := fun {w w' g} ⟨h1, D, left, ⟨es, clock, since, seen, c0, q1, q2, q3, q4, q5, q6⟩, h3⟩ hk => ⟨h1, D, left, ⟨es, clock, since, seen, c0, (hk b ((h1 b).2 (.inl rfl))).trans q1, q2, q3, q4, (hk r ((h1 r).2 (.inr rfl))).trans q5, q6⟩, h3⟩
  dom := fun {w g} ⟨h1, D, left, h2, h3⟩ x hx => by
    rcases (h1 x).1 hx with rfl | rfl
    · exact h2.owns.lt
    · exact h2.lt
/-- Behind a step. -/
def rgE {P : Program} {e : TypeId} {α : Type} (E : EK P e α) (kt : TypeId) (b r N : Nat) (F : Int → Option α) (todo : Int → Bool) (cnt : Nat) (tup : Value) : HP where
  sat w g := (rgD E kt b r N F todo cnt).sat w g ∧ (Instr.entry (.pointer (some ⟨r, 0, none⟩))).run P w = .ok tup w ∧ ∀ w', w'.heap[b]? = w.heap[b]? → w'.heap[r]? = w.heap[r]? → (Instr.entry (.pointer (some ⟨r, 0, none⟩))).run P w' = .ok tup w'
  loc := fun {w w' g} ⟨h1, h2, h3⟩ hk => ⟨(rgD E kt b r N F todo cnt).loc h1 hk, h3 w' (hk b ((h1.1 b).2 (.inl rfl))) (hk r ((h1.1 r).2 (.inr rfl))), fun w'' e1 e2 => h3 w'' (e1.trans (hk b ((h1.1 b).2 (.inl rfl)))) (e2.trans (hk r ((h1.1 r).2 (.inr rfl))))⟩
  dom := fun {w g} ⟨h1, _⟩ => (rgD E kt b r N F todo cnt).dom h1

section
variable {P : Program} {n : Nat} {md : Bool} {ops : Array Oper} {rest : List Oper} {f : Fr} {w w0 : World} {f0 : FP} {L : List HP} {QC : Exit → Fr → World → Prop} {Q : Fr → World → Prop}
variable {d : Tmp} {x y z : Operand} {ty t kt e : TypeId} {pos : String} {after : Array Edge} {α : Type} {E : EK P e α} {N : Nat} {F : Int → Option α}
variable {b r cnt : Nat} {todo : Int → Bool} {k : Int} {tup : Value}

theorem rgD.isM {g : FP} (h : (rgD E kt b r N F todo cnt).sat w g) : IsM E kt w b N F := by
  obtain ⟨_, D, left, h2, h3, _⟩ := h
  exact ⟨D, h2.owns, h3⟩
theorem rgE.plain {g : FP} (h : (rgE E kt b r N F todo cnt tup).sat w g) : (rgD E kt b r N F todo cnt).sat w g := h.1
theorem entry_loc {w' : World} {es : Array MapEntry} {clock since c0 : Nat} {seen : Array Nat} {v : Value} (hb : w.heap[b]? = some (.map es clock)) (hr : w.heap[r]? = some (.mapIter (some b) since seen c0))
    (h : (Instr.entry (.pointer (some ⟨r, 0, none⟩))).run P w = .ok v w) (hb' : w'.heap[b]? = w.heap[b]?) (hr' : w'.heap[r]? = w.heap[r]?) : (Instr.entry (.pointer (some ⟨r, 0, none⟩))).run P w' = .ok v w' := by
  rw [hb] at hb'
  rw [hr] at hr'
  simp only [Instr.entry, getObj, Sem.run_bind, Sem.run, hr, Result.andThen] at h
  simp only [Instr.entry, getObj, Sem.run_bind, Sem.run, hr', Result.andThen]
  cases hs : seen.back? with
  | none => simp [hs] at h
  | some stamp =>
    simp only [hs, Sem.run_bind, Sem.run, hb, Result.andThen] at h
    simp only [Sem.run_bind, Sem.run, hb', Result.andThen]
    by_cases hc : (clock != c0) = true
    · simp [hc] at h
    · simp only [hc] at h ⊢
      cases he : es.find? (·.born == stamp) with
      | none => simp [he] at h
      | some x =>
        simp [he] at h ⊢
        exact h

theorem o_rangeD (hk : P.underlying kt = some (.int .i64)) (ht : P.underlying t = some (.map kt e)) (H : St w0 f0 L w) (i : Nat) (hi : L[i]? = some (mp E kt b N F)) (hx : ev f x = .map (some b))
    (h : ∀ cnt r w', St w0 f0 (L.set i (rgD E kt b r N F (fun k => (F k).isSome) cnt)) w' → wO P ops n false rest Q (up f d (.pointer (some ⟨r, 0, none⟩))) w') (hd : Nat.blt d n = true := by rfl) :
    wO P ops n false (⟨some d, .range t x, ty, pos, after, none⟩ :: rest) Q f w := by
  obtain ⟨f1, hA, _, hB⟩ := H.focus i hi
  obtain ⟨hg, D, hown, hS⟩ := hA
  obtain ⟨w', hrun, hrg, hgr, hsz⟩ := hown.range (int_keyed hk) ht
  refine o_val (w' := w') (v := .pointer (some ⟨w.heap.size, 0, none⟩)) rfl hd ?_ (h (Maps.size D) w.heap.size w' (hB w' _ (fun x => x = b ∨ x = w.heap.size) (Step.grown hgr fun b hb => by cases hb) ⟨fun _ => Iff.rfl, D, _, hrg, hS, fun k hw => (hS.2.2 k hw).1⟩ fun x hx => ?_))
  · simp [execOp, hx, hrun]
  · rcases hx with rfl | rfl
    · exact .inl ((hg _).2 rfl)
    · exact .inr (Nat.le_refl _)
theorem o_nextD (hk : P.underlying kt = some (.int .i64)) (H : St w0 f0 L w) (i : Nat) (hi : L[i]? = some (rgD E kt b r N F todo cnt)) (hx : ev f x = .pointer (some ⟨r, 0, none⟩))
    (h0 : ∀ w', (∀ k, F k ≠ none → todo k = false) → St w0 f0 (L.set i (mp E kt b N F)) w' → wO P ops n false rest Q (up f d (.tuple #[.bool false])) w')
    (h1 : ∀ k x w' cnt', wfi k → E.good x → todo k = true → F k = some x → cnt' < cnt → St w0 f0 (L.set i (rgE E kt b r N F (fun j => todo j && j != k) cnt' (.tuple #[.int .i64 k, E.enc x]))) w' → wO P ops n false rest Q (up f d (.tuple #[.bool true, .int .i64 k, E.enc x])) w')
    (hd : Nat.blt d n = true := by rfl) : wO P ops n false (⟨some d, .next x false, ty, pos, after, none⟩ :: rest) Q f w := by
  obtain ⟨f1, hA, _, hB⟩ := H.focus i hi
  obtain ⟨hg, D, left, hrg, hS, hl⟩ := hA
  rcases hrg.next (int_keyed hk) ty with ⟨_, a1, a2⟩ | ⟨key, vv, kl, y, w', cnt', hkey, hlk, hv, hat, hrun, hrg', hlt, hgr, hsz, hen⟩
  · refine o_val (w' := w) (v := .tuple #[.bool false]) rfl hd ?_ (h0 w (fun k hkk => by rw [← hl k (hS.1 k hkk)]; exact a1 _) (hB w _ (fun x => x = b) (Step.refl _ _) ⟨fun _ => Iff.rfl, D, hrg.owns, hS⟩ fun x hx => .inl ((hg x).2 (.inl hx))))
    simp [execOp, hx, a2]
  · obtain ⟨k, rfl, rfl, hkw⟩ := keyOf_int_inv hk hkey
    have hkw := wfi_iff.2 hkw
    obtain ⟨x', hx1, rfl, rfl⟩ := E.inv _ _ hv
    have hF : F k = some x' := by
      have h1 := (hS.2.2 k hkw).2
      cases hFk : F k with
      | none =>
        exfalso
        have a1 := hat (.lit (.bool true))
        have a2 := hat (.lit (.bool false))
        rw [h1, hFk] at a1 a2
        have := a1.trans a2.symm
        cases this
      | some x2 =>
        have a1 := hat (.lit (.bool true))
        rw [h1, hFk] at a1
        rw [E.inj _ _ a1]
    have hs : Step w f1 w' := Step.grown hgr fun b hb => by cases hb; exact (hg _).2 (.inr rfl)
    have hD : (rgD E kt b r N F (fun j => todo j && j != k) cnt').sat w' f1 := ⟨hg, D, _, hrg', hS, fun j hj => by
      show (left (.int .i64 j) && !(Lit.int .i64 j).sameKey (.int .i64 k)) = _
      rw [hl j hj, sameKey_i]; rfl⟩
    obtain ⟨es', clock', since', seen', c0', q1, q2, q3, q4, q5, q6⟩ := hrg'
    refine o_val (w' := w') (v := .tuple #[.bool true, .int .i64 k, E.enc x']) rfl hd ?_ (h1 k x' w' cnt' hkw hx1 (by rw [← hl k hkw]; exact hlk) hF hlt (hB w' _ f1 hs ⟨hD, hen, fun w'' e1 e2 => entry_loc q1 q5 hen e1 e2⟩ fun b hb => .inl hb))
    simp [execOp, hx, hrun]
theorem o_delD {dd : Option Tmp} (hk : P.underlying kt = some (.int .i64)) (ht : P.underlying t = some (.map kt e)) (H : St w0 f0 L w) (i : Nat) (hi : L[i]? = some (rgD E kt b r N F todo cnt))
    (hx : ev f x = .map (some b)) (hy : ev f y = .int .i64 k) (hw : wfi k) (h : ∀ w' cnt', cnt' ≤ cnt → St w0 f0 (L.set i (rgD E kt b r N (upd F k none) (fun j => todo j && j != k) cnt')) w' → wO P ops n false rest Q (upO f dd (.tuple #[])) w') (hd : dOk n dd = true := by rfl) :
    wO P ops n false (⟨dd, .call { callee := .builtin .delete, args := #[x, y], argTypes := #[t, kt] }, ty, pos, after, none⟩ :: rest) Q f w := by
  obtain ⟨f1, hA, _, hB⟩ := H.focus i hi
  obtain ⟨hg, D, left, hrg, hS, hl⟩ := hA
  obtain ⟨w', cnt', hrun, hrg', hle, hmt⟩ := hrg.drop (int_keyed hk) ht (keyOf_int_mk hk (wfi_iff.1 hw)) ty
  obtain ⟨hf1, hf2, hD⟩ := hS
  refine o_val (w' := w') (v := .tuple #[]) rfl hd ?_ (h w' cnt' hle (hB w' _ f1 (Step.grown hmt.grown fun b' hb' => by cases hb'; exact (hg _).2 (.inl rfl)) ⟨hg, _, _, hrg', ⟨?_, ?_, ?_⟩, fun j hj => ?_⟩ fun b hb => .inl hb))
  · simp [execOp, resolve, invoke, builtin, hx, hy, hrun]
  · intro j hj
    by_cases e1 : j = k
    · subst e1; exact hw
    · rw [upd_other F e1] at hj; exact hf1 j hj
  · intro j x hj
    by_cases e1 : j = k
    · subst e1; rw [upd_same] at hj; cases hj
    · rw [upd_other F e1] at hj; exact hf2 j x hj
  · intro j hj
    by_cases e1 : j = k
    · subst e1
      rw [upd_same]
      exact ⟨by rw [has_del_same]; rfl, fun z => by rw [atKey_del_same]; rfl⟩
    · rw [upd_other F e1]
      obtain ⟨hh, hat⟩ := hD j hj
      exact ⟨by rw [has_del_other (lit_ne e1)]; exact hh, fun z => by rw [atKey_del_other (lit_ne e1)]; exact hat z⟩
  · show (left (.int .i64 j) && !(Lit.int .i64 j).sameKey (.int .i64 k)) = _
    rw [hl j hj, sameKey_i]; rfl
end

/-! in the newer layer -/
class PcG (L : List HP) (r : Nat) (X : outParam HP) (put : outParam (HP → List HP)) : Prop where
  at_ : ∃ i, L[i]? = some X ∧ ∀ Y, put Y = L.set i Y
class PcH (L : List HP) (b : Nat) (X : outParam HP) (put : outParam (HP → List HP)) : Prop where
  at_ : ∃ i, L[i]? = some X ∧ ∀ Y, put Y = L.set i Y
section
variable {P : Program} {n : Nat} {m : Bool} {ops : Array Oper} {rest : List Oper} {f : Fr} {w w0 : World} {f0 : FP} {L : List HP} {QC : Exit → Fr → World → Prop}
variable {d : Tmp} {x y z : Operand} {ty t kt e : TypeId} {pos : String} {after : Array Edge} {α : Type} {E : EK P e α} {N : Nat} {F : Int → Option α}
variable {b r cnt : Nat} {todo : Int → Bool} {k : Int} {tup : Value} {B X : HP} {put : HP → List HP}
instance (priority := high) pcg_here : PcG (rgD E kt b r N F todo cnt :: L) r (rgD E kt b r N F todo cnt) (fun Y => Y :: L) := ⟨0, rfl, fun _ => rfl⟩
instance (priority := high) pcg_hereE : PcG (rgE E kt b r N F todo cnt tup :: L) r (rgE E kt b r N F todo cnt tup) (fun Y => Y :: L) := ⟨0, rfl, fun _ => rfl⟩
instance pcg_next [h : PcG L r X put] : PcG (B :: L) r X (fun Y => B :: put Y) := by
  obtain ⟨i, h1, h2⟩ := h.at_; exact ⟨i + 1, h1, fun Y => by rw [h2]; rfl⟩
instance (priority := high) pch_here : PcH (rgD E kt b r N F todo cnt :: L) b (rgD E kt b r N F todo cnt) (fun Y => Y :: L) := ⟨0, rfl, fun _ => rfl⟩
instance pch_next [h : PcH L b X put] : PcH (B :: L) b X (fun Y => B :: put Y) := by
  obtain ⟨i, h1, h2⟩ := h.at_; exact ⟨i + 1, h1, fun Y => by rw [h2]; rfl⟩

theorem s_rangeD [hm : MpT P t kt e] (hx : ev f x = .map (some b)) [h : PcM L b (mp E kt b N F) put]
    (hn : ∀ cnt r, sO P n w0 f0 ops false rest QC (up f d (.pointer (some ⟨r, 0, none⟩))) (put (rgD E kt b r N F (fun k => (F k).isSome) cnt))) (hd : Nat.blt d n = true := by rfl) : sO P n w0 f0 ops false (⟨some d, .range t x, ty, pos, after, none⟩ :: rest) QC f L := by
  intro w H
  obtain ⟨i, hi, hp⟩ := h.at_
  exact o_rangeD hm.k hm.u H i hi hx (fun cnt r w' H' => hn cnt r w' (by rw [hp]; exact H')) hd
theorem s_nextD (hk : P.underlying kt = some (.int .i64)) (hx : ev f x = .pointer (some ⟨r, 0, none⟩)) [h : PcG L r (rgD E kt b r N F todo cnt) put]
    (h0 : (∀ k, F k ≠ none → todo k = false) → sO P n w0 f0 ops false rest QC (up f d (.tuple #[.bool false])) (put (mp E kt b N F)))
    (h1 : ∀ k x cnt', wfi k → E.good x → todo k = true → F k = some x → cnt' < cnt → sO P n w0 f0 ops false rest QC (up f d (.tuple #[.bool true, .int .i64 k, E.enc x])) (put (rgE E kt b r N F (fun j => todo j && j != k) cnt' (.tuple #[.int .i64 k, E.enc x]))))
    (hd : Nat.blt d n = true := by rfl) : sO P n w0 f0 ops false (⟨some d, .next x false, ty, pos, after, none⟩ :: rest) QC f L := by
  intro w H
  obtain ⟨i, hi, hp⟩ := h.at_
  exact o_nextD hk H i hi hx (fun w' hf H' => h0 hf w' (by rw [hp]; exact H')) (fun k x w' cnt' a1 a2 a3 a4 a5 H' => h1 k x cnt' a1 a2 a3 a4 a5 w' (by rw [hp]; exact H')) hd
theorem s_entryD (hx : ev f x = .pointer (some ⟨r, 0, none⟩)) [h : PcG L r (rgE E kt b r N F todo cnt tup) put]
    (hn : sO P n w0 f0 ops m rest QC (up f d tup) (put (rgD E kt b r N F todo cnt))) (hd : Nat.blt d n = true := by rfl) : sO P n w0 f0 ops m (⟨some d, .entry x, ty, pos, after, none⟩ :: rest) QC f L := by
  intro w H
  obtain ⟨i, hi, hp⟩ := h.at_
  obtain ⟨f1, hA, _, _⟩ := H.focus i hi
  refine o_entry hx hA.2.1 (hn w ?_) hd
  rw [hp]; exact H.turn i hi fun g hg => hg.1
theorem s_delD [hm : MpT P t kt e] (hx : ev f x = .map (some b)) (hy : ev f y = .int .i64 k) [h : PcH L b (rgD E kt b r N F todo cnt) put] [hw : RdD (okOf w0 f0) w0 k]
    (hn : ∀ cnt', cnt' ≤ cnt → sO P n w0 f0 ops false rest QC (up f d (.tuple #[])) (put (rgD E kt b r N (upd F k none) (fun j => todo j && j != k) cnt'))) (hd : Nat.blt d n = true := by rfl) : sO P n w0 f0 ops false (⟨some d, .call { callee := .builtin .delete, args := #[x, y], argTypes := #[t, kt] }, ty, pos, after, none⟩ :: rest) QC f L := by
  intro w H
  obtain ⟨i, hi, hp⟩ := h.at_
  exact o_delD hm.k hm.u H i hi hx hy (RdD.int hw) (fun w' cnt' h1 H' => hn cnt' h1 w' (by rw [hp]; exact H')) hd
theorem s_delD0 [hm : MpT P t kt e] (hx : ev f x = .map (some b)) (hy : ev f y = .int .i64 k) [h : PcH L b (rgD E kt b r N F todo cnt) put] [hw : RdD (okOf w0 f0) w0 k]
    (hn : ∀ cnt', cnt' ≤ cnt → sO P n w0 f0 ops false rest QC f (put (rgD E kt b r N (upd F k none) (fun j => todo j && j != k) cnt'))) : sO P n w0 f0 ops false (⟨none, .call { callee := .builtin .delete, args := #[x, y], argTypes := #[t, kt] }, ty, pos, after, none⟩ :: rest) QC f L := by
  intro w H
  obtain ⟨i, hi, hp⟩ := h.at_
  exact o_delD hm.k hm.u H i hi hx hy (RdD.int hw) (fun w' cnt' h1 H' => hn cnt' h1 w' (by rw [hp]; exact H')) rfl
theorem s_lookD [hm : MpT P t kt e] [he : Ekc P e α E] (hx : ev f x = .map (some b)) (hy : ev f y = .int .i64 k) [h : PcH L b (rgD E kt b r N F todo cnt) put] [hw : RdD (okOf w0 f0) w0 k] (hn : sO P n w0 f0 ops m rest QC (up f d (E.enc ((F k).getD E.zero))) L) (hd : Nat.blt d n = true := by rfl) : sO P n w0 f0 ops m (⟨some d, .lookup t x y false, ty, pos, after, none⟩ :: rest) QC f L := by
  intro w H
  obtain ⟨i, hi, _⟩ := h.at_
  obtain ⟨f1, hA, _, _⟩ := H.focus i hi
  refine o_pure (v := E.enc ((F k).getD E.zero)) rfl hd ?_ (hn w H)
  simp [execOp, hx, hy, (rgD.isM hA).look hm.k hm.u (he.z w) (RdD.int hw)]
end
section
open Go Go.RowKit

section
variable {P : Program} {n : Nat} {w0 w1 : World} {f0 f1 : FP} {ops : Array Oper} {m : Bool} {rest : List Oper} {QC : Exit → Fr → World → Prop} {f : Fr} {L L1 L2 : List HP}
variable {d : Tmp} {ty t yt e2 : TypeId} {x y : Operand} {pos : String} {after : Array Edge} {α : Type} [I : Enc α] {sz bytes l c : Nat} {A : Option Addr} {xs : List α} {put : HP → List HP} {a b c' d' : HP}
theorem s_bld {lp : List (Nat × Operand)} (u : α) (hb : P.built t (lp.map fun p => (p.1, ev f p.2)) = some (I.enc u).toArray) (h : sO P n w0 f0 ops m rest QC (up f d (.agg (I.enc u).toArray)) L) (hd : Nat.blt d n = true := by rfl) :
    sO P n w0 f0 ops m (⟨some d, .build t lp.toArray, ty, pos, after, none⟩ :: rest) QC f L := s_build _ rfl hb h hd
theorem Ctx.lit [D : Dp α] {e : TypeId} {A : Option Addr} {l c : Nat} {xs : List α} {put : HP → List HP} (h : Ctx w0 f0 L1 L2 w1 f1) [hp : Pc L2 A (own (I := I) e A l c xs) put] (hd : ∀ x ∈ xs, D.rd (okOf w1 f1) w1 x) : Dp.rd (okOf w1 f1) w1 (⟨A, c, xs⟩ : Sl α) := (h.ownI A hd).h
theorem all_cons {α : Type} {p : α → Prop} {a : α} {l : List α} (h : p a) (h2 : ∀ x ∈ l, p x) : ∀ x ∈ a :: l, p x := fun x hx => by
  rcases List.mem_cons.1 hx with rfl | hx
  · exact h
  · exact h2 x hx
theorem all_nil {α : Type} {p : α → Prop} : ∀ x ∈ ([] : List α), p x := fun _ h => nomatch h

theorem lay_lay {L E vs : List Value} {p o : Nat} (hE : L = L.take p ++ E ++ L.drop (p + E.length)) (hp : p ≤ L.length) (ho : o + vs.length ≤ E.length) : lay L p (lay E o vs) = lay L (p + o) vs := by
  have hl : (lay E o vs).length = E.length := by unfold lay; simp; omega
  have ht : (L.take p).length = p := by simp; omega
  unfold lay
  have h1 : (E.take o ++ vs ++ E.drop (o + vs.length)).length = E.length := by simp; omega
  rw [h1]
  generalize hA : L.take p = A at *
  generalize hB : L.drop (p + E.length) = B at *
  rw [hE]
  have e1 : (A ++ E ++ B).take (p + o) = A ++ E.take o := by
    rw [List.append_assoc, List.take_append, ht]
    rw [List.take_of_length_le (by omega), show p + o - p = o by omega, List.take_append_of_le_length (by omega)]
  have e2 : (A ++ E ++ B).drop (p + o + vs.length) = E.drop (o + vs.length) ++ B := by
    rw [List.append_assoc, List.drop_append, ht, List.drop_of_length_le (by omega), show p + o + vs.length - p = o + vs.length by omega, List.drop_append_of_le_length (by omega)]; simp
  rw [e1, e2]; simp
/-- some cells of an element of a row of the call's own -/
theorem s_stFA {q : Nat} (u : α) {o : Nat} [hT : CA P t q] {j : Nat} (hx : ev f x = pt A (j * sz + o)) [h : Pc L A (own (I := I) e2 A l c xs) put] [hE : Elt P e2 α I sz bytes] (hq : (ev f y).cells.size = q) (hu : lay (I.enc (nth xs j)) o (ev f y).cells.toList = I.enc u) (ho : o + q ≤ sz) (h1 : j < l)
    (hn : sO P n w0 f0 ops false rest QC f (put (own (I := I) e2 A l c (xs.set j u)))) : sO P n w0 f0 ops false (⟨none, .store t x y, ty, pos, after, none⟩ :: rest) QC f L := by
  intro w H
  obtain ⟨i, f1, hi, hA, hB⟩ := h.st H
  obtain ⟨a, rfl, _⟩ := row.adr (show (row A l c e2 I.sz (xs.flatMap I.enc)).sat w f1 from hA) (by omega)
  have hxl := (own.len hA).1
  have hfl : (xs.flatMap I.enc).length = l * I.sz := by rw [flat_len (fun a _ => I.len a), hxl]
  have hjl : j * I.sz + I.sz ≤ l * I.sz := by rw [← Nat.succ_mul]; exact Nat.mul_le_mul_right _ h1
  have hql : (ev f y).cells.toList.length = q := by rw [Array.length_toList, hq]
  have hsz := hE.sz_eq
  have hvo : ∀ v ∈ (ev f y).cells.toList, v.oneCell' = true := fun v hv => I.one u v (by rw [← hu]; unfold lay; simp [hv])
  obtain ⟨w', hrun, hs, hst⟩ := row.put (P := P) (show (row (some a) l c e2 I.sz (xs.flatMap I.enc)).sat w f1 from hA) (j * sz + o) (ev f y).cells.toList (by rw [hfl, hql, ← hsz]; omega) hvo
  have e1 : lay (xs.flatMap I.enc) (j * sz + o) (ev f y).cells.toList = (xs.set j u).flatMap I.enc := by
    rw [← hsz, ← flat_set (fun a _ => I.len a) (by omega) (I.len u), ← hu]
    have hat := flat_drop (f := I.enc) (sz := I.sz) (l := xs) (fun a _ => I.len a) j
    have hjx : j < xs.length := by omega
    refine (lay_lay ?_ (by omega) (by rw [I.len, hql, hsz]; exact ho)).symm
    have hd2 := flat_drop (f := I.enc) (sz := I.sz) (l := xs) (fun a _ => I.len a) (j + 1)
    rw [I.len, show j * I.sz + I.sz = (j + 1) * I.sz by rw [Nat.succ_mul], hd2]
    conv => lhs; rw [← List.take_append_drop (j * I.sz) (xs.flatMap I.enc), hat, List.drop_eq_getElem_cons hjx, List.flatMap_cons, ← nth_get hjx]
    rw [List.append_assoc]
  rw [e1] at hs
  refine o_skp (w' := w') rfl rfl ?_ (hn w' (hB w' _ f1 hst hs fun b hb => .inl hb))
  have hx' : ev f x = .pointer (some (a.add (j * sz + o))) := hx
  have hsz : (sizeOf t).run P w = .ok (ev f y).cells.size w := by rw [hT.h.sz, hq]
  simp [execOp, hx', Instr.storeAt, Instr.sureAddr, storeVar, hsz, hrun]
/-- A whole number turned into another kind. -/
theorem s_conv {src dst : TypeId} {k k' : IntKind} {v : Int} (hs : P.underlying src = some (.int k)) (ht : P.underlying dst = some (.int k')) (hx : ev f x = .int k v) (h : sO P n w0 f0 ops m rest QC (up f d (.int k' (k'.wrap v))) L) (hd : Nat.blt d n = true := by rfl) :
    sO P n w0 f0 ops m (⟨some d, .convert src dst x, ty, pos, after, none⟩ :: rest) QC f L := by
  intro w H
  refine o_pure (v := .int k' (k'.wrap v)) rfl hd ?_ (h w H)
  simp [execOp, convert, hx, run_underlying hs, run_underlying ht, Conv.intToInt, Result.andThen]
theorem s_convE {src dst : TypeId} {k k' : IntKind} {v v' : Int} (hs : P.underlying src = some (.int k)) (ht : P.underlying dst = some (.int k')) (hx : ev f x = .int k v) (he : k'.wrap v = v') (h : sO P n w0 f0 ops m rest QC (up f d (.int k' v')) L) (hd : Nat.blt d n = true := by rfl) :
    sO P n w0 f0 ops m (⟨some d, .convert src dst x, ty, pos, after, none⟩ :: rest) QC f L := s_conv hs ht hx (by rw [he]; exact h) hd
theorem s_ldF2 [hT : C1 P t] {j o1 o2 : Nat} (hx : ev f x = pt A (j * sz + o1 + o2)) [h : Pc L A (own (I := I) e2 A l c xs) put] [hE : Elt P e2 α I sz bytes] (h1 : j < l) {v : Value} (hv : (I.enc (nth xs j))[o1 + o2]? = some v)
    (hn : sO P n w0 f0 ops m rest QC (up f d v) L) (hd : Nat.blt d n = true := by rfl) : sO P n w0 f0 ops m (⟨some d, .load t x, ty, pos, after, none⟩ :: rest) QC f L :=
  s_ldF (o := o1 + o2) (by rw [← Nat.add_assoc]; exact hx) h1 hv hn hd
theorem PSub.swap2 : PSub w0 f0 (a :: b :: L) (b :: a :: L) := fun w H => by
  have := H.pick [1]; exact this
theorem PSub.roll3 : PSub w0 f0 (a :: b :: c' :: L) (b :: c' :: a :: L) := fun w H => by
  have := H.pick [1, 1]; exact this
end
theorem uint_mod (w : Int) (k : Int) (h0 : 0 < k) (h1 : k ≤ 9223372036854775807) : 0 ≤ IntKind.i64.wrap ((IntKind.u64.wrap w).tmod k) ∧ IntKind.i64.wrap ((IntKind.u64.wrap w).tmod k) < k := by
  have h2 : 0 ≤ IntKind.u64.wrap w := by
    simp only [IntKind.wrap, IntKind.bits, IntKind.signed]
    simp
    omega
  have h3 : 0 ≤ (IntKind.u64.wrap w).tmod k := Int.tmod_nonneg _ h2
  have h4 : (IntKind.u64.wrap w).tmod k < k := Int.tmod_lt_of_pos _ h0
  rw [i64_in _ (by omega)]
  exact ⟨h3, h4⟩
end
section
open Go Go.RowKit

theorem takeN {α : Type} [Enc α] {xs : List α} {i : Nat} (h : i < xs.length) : xs.take i ++ [nth xs i] = xs.take (i + 1) := by rw [nth_get h, List.take_append_getElem]
theorem mapTakeN {α β : Type} [Enc α] {xs : List α} {f : α → β} {i : Nat} (h : i < xs.length) : (xs.map f).take (i + 1) = (xs.map f).take i ++ [f (nth xs i)] := by
  rw [← List.map_take, ← takeN h, List.map_append, List.map_take]; rfl
/-- The other of a pair. -/
def xor1 (q : Nat) : Nat := if q % 2 = 0 then q + 1 else q - 1
theorem xor1_eq (q : Nat) : q ^^^ 1 = xor1 q := by
  have h1 : (q ^^^ 1) / 2 = q / 2 := by rw [Nat.xor_div_two]; simp
  have h2 : (q ^^^ 1).testBit 0 = (q.testBit 0 ^^ (1 : Nat).testBit 0) := Nat.testBit_xor ..
  simp only [Nat.testBit_zero] at h2
  have h4 : ((q ^^^ 1) % 2 = 1) ↔ ¬ q % 2 = 1 := by
    by_cases hq : q % 2 = 1 <;> simp [hq] at h2 ⊢ <;> omega
  unfold xor1
  split <;> omega
theorem xor1_i64 (q : Nat) (hq : q < 4611686018427387904) : IntKind.i64.wrap ((BitVec.ofInt IntKind.i64.bits (q : Int) ^^^ BitVec.ofInt IntKind.i64.bits 1).toNat : Int) = (xor1 q : Int) := by
  have e : (BitVec.ofInt IntKind.i64.bits (q : Int) ^^^ BitVec.ofInt IntKind.i64.bits 1).toNat = xor1 q := by
    rw [BitVec.toNat_xor, BitVec.ofInt_natCast, BitVec.toNat_ofNat, show (BitVec.ofInt IntKind.i64.bits 1).toNat = 1 by decide, Nat.mod_eq_of_lt (Nat.lt_of_lt_of_le hq (by decide)), xor1_eq]
  rw [e]
  have : xor1 q ≤ q + 1 := by unfold xor1; split <;> omega
  exact i64_in _ (by omega)
section
variable {P : Program} {n : Nat} {w0 w1 w : World} {f0 f1 : FP} {ops : Array Oper} {m : Bool} {rest : List Oper} {QC : Exit → Fr → World → Prop} {f : Fr} {L L1 L2 : List HP}
variable {d : Tmp} {ty t yt e e2 : TypeId} {x y : Operand} {pos : String} {after : Array Edge} {α : Type} [I : Enc α] {sz bytes l c : Nat} {A : Option Addr} {xs : List α} {put : HP → List HP}
theorem s_xor1 {q : Nat} (hx : ev f x = .int .i64 (q : Int)) (hy : ev f y = .int .i64 1) (hq : q < 4611686018427387904) (h : sO P n w0 f0 ops m rest QC (up f d (.int .i64 (xor1 q : Int))) L) (hd : Nat.blt d n = true := by rfl) : sO P n w0 f0 ops m (⟨some d, .binOp .xor t x y yt, ty, pos, after, none⟩ :: rest) QC f L := by
  intro w H
  refine o_bin hx hy ?_ (h w H) hd
  rw [← xor1_i64 q hq]
  simp [binOp, Op.intBits]
theorem s_xor1I {q : Int} (hx : ev f x = .int .i64 q) (hy : ev f y = .int .i64 1) (h0 : 0 ≤ q) (hq : q < 4611686018427387904) (h : sO P n w0 f0 ops m rest QC (up f d (.int .i64 (xor1 q.toNat : Int))) L) (hd : Nat.blt d n = true := by rfl) : sO P n w0 f0 ops m (⟨some d, .binOp .xor t x y yt, ty, pos, after, none⟩ :: rest) QC f L :=
  s_xor1 (q := q.toNat) (by rw [Int.toNat_of_nonneg h0]; exact hx) hy (by omega) h hd
theorem s_min {k k' : IntKind} {a b : Int} {ats : Array TypeId} (hx : ev f x = .int k a) (hy : ev f y = .int k' b) (h : sO P n w0 f0 ops m rest QC (up f d (.int k (min a b))) L) (hd : Nat.blt d n = true := by rfl) : sO P n w0 f0 ops m (⟨some d, .call { callee := .builtin .min, args := #[x, y], argTypes := ats }, ty, pos, after, none⟩ :: rest) QC f L := by
  intro w H
  refine o_pure (v := .int k (min a b)) rfl hd ?_ (h w H)
  have : (if b < a then b else a) = min a b := by rw [Int.min_def]; split <;> split <;> omega
  simp [execOp, resolve, invoke, builtin, hx, hy, Builtin.min_, Builtin.min2, Result.andThen, this]
theorem s_max {k k' : IntKind} {a b : Int} {ats : Array TypeId} (hx : ev f x = .int k a) (hy : ev f y = .int k' b) (h : sO P n w0 f0 ops m rest QC (up f d (.int k (max a b))) L) (hd : Nat.blt d n = true := by rfl) : sO P n w0 f0 ops m (⟨some d, .call { callee := .builtin .max, args := #[x, y], argTypes := ats }, ty, pos, after, none⟩ :: rest) QC f L := by
  intro w H
  refine o_pure (v := .int k (max a b)) rfl hd ?_ (h w H)
  have : (if a < b then b else a) = max a b := by rw [Int.max_def]; split <;> split <;> omega
  simp [execOp, resolve, invoke, builtin, hx, hy, Builtin.max_, Builtin.max2, Result.andThen, this]
class ArT (P : Program) (t : TypeId) (e : outParam TypeId) (k : outParam Nat) : Prop where
  u : P.underlying t = some (.array k e)
/-- The address of an element of an array. -/
theorem s_idxV {k : Nat} {q : IntKind} {j : Nat} {a : Addr} [ha : ArT P t e k] [hE : Elt P e α I sz bytes] (hx : ev f x = .pointer (some a)) (hy : ev f y = .int q (j : Int)) (h1 : j < k)
    (hn : sO P n w0 f0 ops m rest QC (up f d (.pointer (some (a.add (j * sz))))) L) (hd : Nat.blt d n = true := by rfl) : sO P n w0 f0 ops m (⟨some d, .indexAddr t x y, ty, pos, after, none⟩ :: rest) QC f L := by
  intro w H
  obtain ⟨zv, hTI, _⟩ := hE.ex
  refine o_pure (v := .pointer (some (a.add (j * sz)))) rfl hd ?_ (hn w H)
  have h2 : ((j : Nat) : Int) < (k : Int) := by omega
  simp [execOp, hx, hy, Instr.indexAt, run_underlying ha.u, asIntOf, h2, hTI.size, Instr.sureAddr]
  intro h3
  omega
theorem map_eraseIdxR {α β : Type} (f : α → β) : ∀ (l : List α) (j : Nat), (l.map f).eraseIdx j = (l.eraseIdx j).map f
  | [], _ => by simp
  | x :: l, 0 => rfl
  | x :: l, j + 1 => by simp only [List.map_cons, List.eraseIdx_cons_succ, map_eraseIdxR f l j]
theorem PSub.rowOut {ss : List (Sl α)} {j : Nat} (hj : j < ss.length) : PSub w0 f0 (rws e ss :: L) (own e (nth ss j).A (nth ss j).xs.length (nth ss j).c (nth ss j).xs :: rws e (ss.eraseIdx j) :: L) := by
  intro w H
  have := H.pull 0 (Ls := ss.map fun s => own e s.A s.xs.length s.c s.xs) rfl j (R := own e (nth ss j).A (nth ss j).xs.length (nth ss j).c (nth ss j).xs) (by rw [List.getElem?_map, nth_some hj]; rfl)
  rw [map_eraseIdxR] at this
  exact this.head
theorem PSub.rowIn {ss : List (Sl α)} {j : Nat} {A : Option Addr} {l c : Nat} {xs : List α} (hj : j < ss.length) (hl : xs.length = l) : PSub w0 f0 (own e A l c xs :: rws e (ss.eraseIdx j) :: L) (rws e (ss.set j ⟨A, c, xs⟩) :: L) := by
  intro w H
  subst hl
  have h1 := H.last
  have := h1.push (R := own e A xs.length c xs) 0 (Ls := ss.map fun s => own e s.A s.xs.length s.c s.xs) j (by rw [map_eraseIdxR]; rfl) (by simpa using hj)
  have e1 : (ss.map fun s => own e s.A s.xs.length s.c s.xs).set j (own e A xs.length c xs) = (ss.set j (⟨A, c, xs⟩ : Sl α)).map fun s => own e s.A s.xs.length s.c s.xs := by rw [List.map_set]
  rw [e1] at this
  exact this
/-- Many empty rows. -/
theorem PSub.nilsRws (e : TypeId) (k : Nat) : PSub w0 f0 L (rws e (List.replicate k (⟨none, 0, []⟩ : Sl α)) :: L) := by
  induction k with
  | zero => exact PSub.nilRws e
  | succ k ih =>
    refine ih.trans ?_
    rw [show List.replicate (k + 1) (⟨none, 0, []⟩ : Sl α) = List.replicate k ⟨none, 0, []⟩ ++ [⟨none, 0, []⟩] by rw [List.replicate_succ']]
    exact PSub.joinNil
/-- A region in drawn order: what only reads (rs), beside it one element put behind a row (k1 lays it, k2 puts it), and behind them a chain. -/
theorem s_mixApp {id N k1 k2 : Nat} {rs : List Nat} {lo : List Oper} {F : Fr} {R : List HP} (u : α) {b : Tmp} {ty1 : TypeId} {pos1 : String} {after1 : Array Edge} [hs : SlT P t e] [hE : Elt P e α I sz bytes]
    (hk : opsAt lo [k1, k2] = [⟨some b, .buildSlice t 1 #[(0, y)], ty1, pos1, after1, none⟩, ⟨some d, .call { callee := .builtin .append, args := #[x, .tmp b], argTypes := #[t, t] }, ty, pos, after, none⟩]) (hm : P.follows .mixedOrders = true) (hB : mixB .any n lo N rs [k1, k2] = true)
    (hread : sO P n w0 f0 lo.toArray true (opsAt lo rs) (QCF F) f R) (hx : ∀ v, ev (up F b v) x = .slice A l c) (hu : (ev F y).cells.toList = I.enc u) (hb : (l + 1) * bytes ≤ 140737488355328)
    (hn : ∀ v A' c', sO P n w0 f0 lo.toArray false (lo.drop N) QC (up (up F b v) d (.slice A' (l + 1) c')) (own (I := I) e A' (l + 1) c' (xs ++ [u]) :: R)) (hd : Nat.blt d n = true := by rfl) (hdb : Nat.blt b n = true := by rfl) (hsz : 1 * sz ≤ 16777216 := by decide) :
    sC P n w0 f0 (.region id lo.toArray true) QC f (own (I := I) e A l c xs :: R) := by
  intro w H
  have Hi := H.idle (Step.drew w fun _ => False)
  refine wC_mix (J := fun w' => St w0 f0 R w') N rs [k1, k2] F hm hB ((H.idle (Step.drew w _)).drop 0) (fun w' H' => hread w' H') ?_
  rw [hk]
  simp only [wJ]
  refine lit_own (lp := [(0, y)]) (ty := ty1) [u] rfl hsz (by simp [hu]) (H.idle (Step.drew w _)) hdb fun q w' H' => ?_
  refine o_nil ⟨(H'.drop 0).drop 0, ?_⟩
  have hP : Pc (own (I := I) e (some ⟨q, 0, none⟩) 1 1 [u] :: own (I := I) e A l c xs :: R) A (own (I := I) e A l c xs) (fun Y => own (I := I) e (some ⟨q, 0, none⟩) 1 1 [u] :: Y :: R) := pc_next (h := pc_here)
  obtain ⟨g, hA, _⟩ := H'.focus 0 rfl
  have hsrc := Src.row (P := P) hs.u (show (row (some ⟨q, 0, none⟩) 1 1 e I.sz ([u].flatMap I.enc)).sat w' g from hA) (fun u' hu' => by simp at hu'; exact I.one _ _ hu')
  rw [hE.sz_eq] at hsrc
  refine app_own (ys := [u]) hP H' (hx _) (k := 1) (by show Src P sz t (up F b _ b) 1 _ w'; unfold up; rw [Nat.beq_refl]; exact hsrc) hb hd fun A' c' w2 H2 => ?_
  exact o_nil ⟨(H2.drop 0).drop 0, hn _ A' c' w2 (H2.drop 0)⟩
end

/-- The value of a cell that holds a function. -/
inductive Fv where
  | no
  | fn (g : FuncId) (cap : List Value)
def Fv.v : Fv → Value
  | .no => .nilFunc
  | .fn g cap => .func (.func g) #[] cap.toArray
instance : Enc Fv where
  enc := fun x => [x.v]
  sz := 1
  dflt := .no
  len := fun _ => rfl
  one := by
    intro x u h
    simp only [List.mem_cons, List.not_mem_nil, or_false] at h
    subst h
    cases x <;> rfl
  pos := by decide
section
variable {P : Program} {n : Nat} {w0 w1 w : World} {f0 f1 : FP} {ops : Array Oper} {m : Bool} {rest : List Oper} {QC : Exit → Fr → World → Prop} {f : Fr} {L L1 L2 : List HP}
variable {d : Tmp} {ty t tx e : TypeId} {x y : Operand} {pos : String} {after : Array Edge} {α : Type} [I : Enc α] {sz bytes l c : Nat} {A : Option Addr}
theorem run_append_made (t tx ty e : TypeId) (i : TypeInfo) (z : Value) {q : IntKind} (ht : P.underlying t = some (.slice e)) (hx : P.underlying tx = some (.int q)) (hi : P.info? e = some i) (hz : i.zero = some z) (k : Nat) (h0 : 0 < k) (hs : 0 < i.size) (h63 : (k : Int) ≤ 9223372036854775807) (h48 : k * i.bytes ≤ 281474976710656) :
    (Builtin.append_ #[t, tx] ty #[.slice none 0 0, .int .i64 (k : Int)]).run P w =
      .ok (.slice (some ⟨w.heap.size, 0, none⟩) k (grownCap w k 0 e)) (w.drew.alloc (.cells (Builtin.zeroCells z.cells k ++ Builtin.zeroCells z.cells (grownCap w k 0 e - k)) e)) := by
  have hn : k ≠ 0 := by omega
  have h63' : ¬ (9223372036854775807 < (k : Int)) := by omega
  have h48' : ¬ (281474976710656 < Builtin.nextslicecap k 0 * i.bytes) := by rw [nextslicecap_zero h0]; omega
  have hw : IntKind.i64.wrap (k : Int) = (k : Int) := i64_in _ (by omega)
  have hk0 : ¬ ((k : Int) < 0) := by omega
  have hb : ¬ (281474976710656 < (k : Int) * (i.bytes : Int)) := by
    have h1 : ((k * i.bytes : Nat) : Int) ≤ 281474976710656 := by omega
    rw [Int.natCast_mul] at h1
    omega
  have hks : ¬ (k * i.size = 0) := Nat.pos_iff_ne_zero.1 (Nat.mul_pos h0 hs)
  have hs0 : i.size ≠ 0 := by omega
  simp [Builtin.append_, run_underlying ht, run_underlying hx, sizeOf, typeInfo, zeroValue, hi, hz, hn, h63', h48', Question.forced, run_firstCells_none, newRow, grownCap, asInt, asIntOf, Result.andThen, hw, hk0, hb, hs0]
  rw [if_neg hks]
  rfl
theorem s_appMk {q : IntKind} [hs : SlT P t e] [hE : Elt P e α I sz bytes] {k : Nat} (hti : P.underlying tx = some (.int q)) (hx : ev f x = .slice none 0 0) (hy : ev f y = .int .i64 (k : Int)) (hk : 0 < k) (hb : k * bytes ≤ 140737488355328)
    (hn : ∀ b c, sO P n w0 f0 ops false rest QC (up f d (.slice (some ⟨b, 0, none⟩) k c)) (own (I := I) e (some ⟨b, 0, none⟩) k c (List.replicate k I.dflt) :: L)) (hd : Nat.blt d n = true := by rfl) :
    sO P n w0 f0 ops false (⟨some d, .call { callee := .builtin .append, args := #[x, y], argTypes := #[t, tx] }, ty, pos, after, none⟩ :: rest) QC f L := by
  intro w H
  obtain ⟨zv, hTI, hzv⟩ := hE.ex
  have hsz := hE.sz_eq
  obtain ⟨i, hi, hz0, hz1, hz2⟩ := hTI.info
  subst hz1
  subst hz2
  have hpos : 0 < i.size := by rw [← hsz]; exact I.pos
  have hk2 : k ≤ 140737488355328 := Nat.le_trans (Nat.le_mul_of_pos_right _ hTI.posb) hb
  have hr := run_append_made (P := P) (w := w) t tx ty e i zv hs.u hti hi hz0 k hk hpos (by omega) (by omega)
  have hge := grownCap_ge w k 0 e
  have hcm : grownCap w k 0 e ≤ maxLen := grownCap_le_maxLen w k 0 e (by simp only [maxLen]; omega)
  have e1 : (Builtin.zeroCells zv.cells k).toList = (List.replicate k I.dflt).flatMap I.enc := by
    have := made_flat zv.cells k
    rw [hzv] at this
    exact this.trans (rep_flat k)
  have hl1 : ((List.replicate k I.dflt).flatMap I.enc).length = k * I.sz := by rw [flat_len (fun a _ => I.len a)]; simp
  refine o_val (w' := w.drew.alloc (.cells (Builtin.zeroCells zv.cells k ++ Builtin.zeroCells zv.cells (grownCap w k 0 e - k)) e)) (v := .slice (some ⟨w.heap.size, 0, none⟩) k (grownCap w k 0 e)) rfl hd ?_ (hn w.heap.size (grownCap w k 0 e) _ (St.head (H.add (own (I := I) e (some ⟨w.heap.size, 0, none⟩) k (grownCap w k 0 e) (List.replicate k I.dflt)) ((Step.drew w (fun _ => False)).trans (Step.alloc w.drew (fun _ => False) _) fun b hb => .inl hb) (g := fun x => x = w.heap.size) ?_ fun b hb => Nat.le_of_eq hb.symm)))
  · simp [execOp, resolve, invoke, builtin, hx, hy, hr]
  · refine ⟨hl1, hge, hcm, rfl, fun _ => Iff.rfl, _, heap_alloc_new w.drew _, ?_, ?_⟩
    · simp only [Array.size_append, size_zeroCells, hTI.zs, ← Nat.add_mul, Nat.zero_add]
      rw [show k + (grownCap w k 0 e - k) = grownCap w k 0 e by omega, hsz]
      exact Nat.le_refl _
    · simp only [Array.toList_append, List.drop_zero, e1]
      rw [← hl1]
      exact List.take_left
theorem s_cap [hs : SlT P t e] (hx : ev f x = .slice A l c) (h : sO P n w0 f0 ops m rest QC (up f d (.int .i64 (c : Int))) L) (hd : Nat.blt d n = true := by rfl) : sO P n w0 f0 ops m (⟨some d, .call { callee := .builtin .cap, args := #[x], argTypes := #[t] }, ty, pos, after, none⟩ :: rest) QC f L := by
  intro w H
  refine o_pure (v := .int .i64 (c : Int)) rfl hd ?_ (h w H)
  simp [execOp, resolve, invoke, builtin, hx, Builtin.cap_, run_underlying hs.u, goInt, Result.andThen]
end

class InT (P : Program) (t : TypeId) (k : outParam IntKind) : Prop where
  u : P.underlying t = some (.int k)
theorem u64_in (n : Int) (h0 : 0 ≤ n) (h1 : n < 18446744073709551616) : IntKind.u64.wrap n = n := by
  simp only [IntKind.wrap, IntKind.bits, IntKind.signed]
  simp
  omega
section
variable {P : Program} {n : Nat} {w0 : World} {f0 : FP} {ops : Array Oper} {m : Bool} {rest : List Oper} {QC : Exit → Fr → World → Prop} {f : Fr} {L : List HP}
variable {d : Tmp} {ty t yt : TypeId} {x y : Operand} {pos : String} {after : Array Edge}
theorem s_convU {src dst : TypeId} [hs : InT P src .i64] [ht : InT P dst .u64] {v : Nat} (hx : ev f x = .int .i64 (v : Int)) (hv : v < 9223372036854775808) (h : sO P n w0 f0 ops m rest QC (up f d (.int .u64 (v : Int))) L) (hd : Nat.blt d n = true := by rfl) :
    sO P n w0 f0 ops m (⟨some d, .convert src dst x, ty, pos, after, none⟩ :: rest) QC f L := s_conv hs.u ht.u hx (by rw [u64_in _ (by omega) (by omega)]; exact h) hd
theorem s_convUI {src dst : TypeId} [hs : InT P src .i64] [ht : InT P dst .u64] {v : Int} (hx : ev f x = .int .i64 v) (h0 : 0 ≤ v) (hv : v < 9223372036854775808) (h : sO P n w0 f0 ops m rest QC (up f d (.int .u64 (v.toNat : Int))) L) (hd : Nat.blt d n = true := by rfl) :
    sO P n w0 f0 ops m (⟨some d, .convert src dst x, ty, pos, after, none⟩ :: rest) QC f L := s_convU (v := v.toNat) (by rw [Int.toNat_of_nonneg h0]; exact hx) (by omega) h hd
theorem s_shr {a k : Nat} (hx : ev f x = .int .i64 (a : Int)) (hy : ev f y = .int .u64 (k : Int)) (hk : k ≤ 63) (h : sO P n w0 f0 ops m rest QC (up f d (.int .i64 ((a / 2 ^ k : Nat) : Int))) L) (hd : Nat.blt d n = true := by rfl) : sO P n w0 f0 ops m (⟨some d, .binOp .shr t x y yt, ty, pos, after, none⟩ :: rest) QC f L := by
  intro w H
  refine o_pure (v := .int .i64 ((a / 2 ^ k : Nat) : Int)) rfl hd ?_ (h w H)
  show (Sem.run P (do pure (Next.value (← (do eqGuard .shr t x y (ev f x) (ev f y); binOp .shr t (ev f x) (ev f y))))) w) = _
  rw [hx, hy]
  have h1 : ¬ ((k : Int) < 0) := by omega
  have h2 : min k 64 = k := by omega
  have e : (a : Int).fdiv (2 ^ k) = ((a / 2 ^ k : Nat) : Int) := by
    rw [Int.fdiv_eq_ediv_of_nonneg _ (Int.le_of_lt (Int.pow_pos (by decide))), Int.natCast_ediv, Int.natCast_pow]; rfl
  simp [eqGuard, binOp, Op.shift, h1, IntKind.bits, h2, e, Result.andThen]
theorem s_shl1 {k : Nat} (hx : ev f x = .int .i64 1) (hy : ev f y = .int .u64 (k : Int)) (hk : k ≤ 62) (h : sO P n w0 f0 ops m rest QC (up f d (.int .i64 ((2 ^ k : Nat) : Int))) L) (hd : Nat.blt d n = true := by rfl) : sO P n w0 f0 ops m (⟨some d, .binOp .shl t x y yt, ty, pos, after, none⟩ :: rest) QC f L := by
  intro w H
  refine o_pure (v := .int .i64 ((2 ^ k : Nat) : Int)) rfl hd ?_ (h w H)
  show (Sem.run P (do pure (Next.value (← (do eqGuard .shl t x y (ev f x) (ev f y); binOp .shl t (ev f x) (ev f y))))) w) = _
  rw [hx, hy]
  have h1 : ¬ ((k : Int) < 0) := by omega
  have h2 : min k 64 = k := by omega
  have hp : (2 : Nat) ^ k ≤ 2 ^ 62 := Nat.pow_le_pow_right (by decide) hk
  have e : IntKind.i64.wrap (2 ^ k : Int) = ((2 ^ k : Nat) : Int) := by
    rw [show ((2 : Int) ^ k) = ((2 ^ k : Nat) : Int) by rw [Int.natCast_pow]; rfl]
    have hu : ((2 ^ k : Nat) : Int) ≤ ((2 ^ 62 : Nat) : Int) := Int.ofNat_le.2 hp
    have hz : (0 : Int) ≤ ((2 ^ k : Nat) : Int) := Int.natCast_nonneg _
    generalize ((2 ^ k : Nat) : Int) = z at hu hz ⊢
    have hc : ((2 ^ 62 : Nat) : Int) = 4611686018427387904 := by decide
    exact i64_in _ (by omega)
  simp [eqGuard, binOp, Op.shift, h1, IntKind.bits, h2, e, Result.andThen]
theorem s_and1 {a : Nat} (hx : ev f x = .int .i64 (a : Int)) (hy : ev f y = .int .i64 1) (ha : a < 9223372036854775808) (h : sO P n w0 f0 ops m rest QC (up f d (.int .i64 ((a % 2 : Nat) : Int))) L) (hd : Nat.blt d n = true := by rfl) : sO P n w0 f0 ops m (⟨some d, .binOp .and t x y yt, ty, pos, after, none⟩ :: rest) QC f L := by
  refine s_and hx hy ?_ hd
  have e : IntKind.i64.wrap ((BitVec.ofInt IntKind.i64.bits (a : Int) &&& BitVec.ofInt IntKind.i64.bits 1).toNat : Int) = ((a % 2 : Nat) : Int) := by
    rw [BitVec.toNat_and, BitVec.ofInt_natCast, BitVec.toNat_ofNat, show (BitVec.ofInt IntKind.i64.bits 1).toNat = 1 by decide, Nat.mod_eq_of_lt (Nat.lt_of_lt_of_le ha (by decide)), Nat.and_one_is_mod]
    exact i64_in _ (by omega)
  rw [e]; exact h
theorem s_orN {a b : Nat} (hx : ev f x = .int .i64 (a : Int)) (hy : ev f y = .int .i64 (b : Int)) (ha : a < 4611686018427387904) (hb : b < 4611686018427387904) (h : sO P n w0 f0 ops m rest QC (up f d (.int .i64 ((a ||| b : Nat) : Int))) L) (hd : Nat.blt d n = true := by rfl) : sO P n w0 f0 ops m (⟨some d, .binOp .or t x y yt, ty, pos, after, none⟩ :: rest) QC f L := by
  intro w H
  refine o_bin hx hy ?_ (h w H) hd
  have hor : a ||| b < 2 ^ 62 := Nat.or_lt_two_pow (by omega) (by omega)
  have e : IntKind.i64.wrap ((BitVec.ofInt IntKind.i64.bits (a : Int) ||| BitVec.ofInt IntKind.i64.bits (b : Int)).toNat : Int) = ((a ||| b : Nat) : Int) := by
    rw [BitVec.toNat_or, BitVec.ofInt_natCast, BitVec.ofInt_natCast, BitVec.toNat_ofNat, BitVec.toNat_ofNat, Nat.mod_eq_of_lt (Nat.lt_of_lt_of_le ha (by decide)), Nat.mod_eq_of_lt (Nat.lt_of_lt_of_le hb (by decide))]
    exact i64_in _ (by omega)
  rw [← e]
  simp [binOp, Op.intBits]
end

section
variable {P : Program} {n : Nat} {w0 : World} {f0 : FP} {ops : Array Oper} {rest : List Oper} {QC : Exit → Fr → World → Prop} {f : Fr} {L L0 : List HP} {o2 : Oper}
def jnS (w0 : World) (f0 : FP) (L0 : List HP) (nxt : Fr → World → Prop) : Exit → Fr → World → Prop := fun _ f' w' => St w0 f0 L0 w' ∧ nxt f' w'
theorem e_jn2 {nxt : Fr → World → Prop} (h1 : PSub w0 f0 L L0) (h2 : sO P n w0 f0 ops false [o2] (jnS w0 f0 L0 nxt) f L) : sE w0 f0 (jnS w0 f0 L0 fun f1 w1 => wO P ops n false [o2] (fun f2 w2 => St w0 f0 L0 w2 ∧ nxt f2 w2) f1 w1) .normal f L := fun w H => ⟨h1 w H, h2 w H⟩
theorem e_jnE (h1 : PSub w0 f0 L L0) (h2 : sO P n w0 f0 ops false rest QC f L) : sE w0 f0 (jnS w0 f0 L0 fun f2 w2 => wO P ops n false rest (fun f3 w3 => QC .normal f3 w3) f2 w2) .normal f L := fun w H => ⟨h1 w H, h2 w H⟩
/-- What only reads (rs) reads of L0 alone; beside it two steps (k1, k2) that leave L0 as it is; and behind them a chain. -/
theorem s_mixJ2 {id N k1 k2 : Nat} {rs : List Nat} {lo : List Oper} {F : Fr} {o1 : Oper} (L0 : List HP) (hk : opsAt lo [k1, k2] = [o1, o2]) (hm : P.follows .mixedOrders = true) (hB : mixB .any n lo N rs [k1, k2] = true) (hL0 : PSub w0 f0 L L0)
    (hread : sO P n w0 f0 lo.toArray true (opsAt lo rs) (QCF F) f L0) (h1 : sO P n w0 f0 lo.toArray false [o1] (jnS w0 f0 L0 fun f1 w1 => wO P lo.toArray n false [o2] (fun f2 w2 => St w0 f0 L0 w2 ∧ wO P lo.toArray n false (lo.drop N) (fun f3 w3 => QC .normal f3 w3) f2 w2) f1 w1) F L) :
    sC P n w0 f0 (.region id lo.toArray true) QC f L := by
  intro w H
  refine wC_mix (J := fun w' => St w0 f0 L0 w') N rs [k1, k2] F hm hB (hL0 _ (H.idle (Step.drew w _))) (fun w' H' => hread w' H') ?_
  rw [hk]
  simp only [wJ]
  exact h1 _ (H.idle (Step.drew w _))
end

section
variable {P : Program} {n : Nat} {w : World}
def rdAt (md : Region.Mode) (ops : Array Oper) (N : Nat) (K : Array Bool → Bool) : List Nat → Array Bool → Bool
  | [], listed => K listed
  | k :: rs, listed => (Region.ready md ops listed).contains k && Region.free md ops listed k && Nat.blt k N && rdAt md ops N K rs (listed.setIfInBounds k true)
def segAt (md : Region.Mode) (ops : Array Oper) (N : Nat) (ts : List Nat) : List (List Nat × Option Nat) → Array Bool → Bool
  | [], listed => seqAt md ops ts listed
  | (rs, none) :: more, listed => rdAt md ops N (segAt md ops N ts more) rs listed
  | (rs, some c) :: more, listed => rdAt md ops N (fun li => decide (Region.ready md ops li = [c]) && Nat.blt c N && segAt md ops N ts more (li.setIfInBounds c true)) rs listed
def segLen : List (List Nat × Option Nat) → Nat
  | [] => 0
  | (rs, none) :: more => rs.length + segLen more
  | (rs, some _) :: more => rs.length + (segLen more + 1)
def segB (md : Region.Mode) (m : Nat) (l : List Oper) (N : Nat) (segs : List (List Nat × Option Nat)) : Bool :=
  Region.noSelect l.toArray && Nat.blt N l.length && Region.sinkB md l.toArray N && Region.chainB md l.toArray N && (segs.all fun s => dstsB m (opsAt l s.1)) && Nat.beq (segLen segs) N &&
    segAt md l.toArray N ((List.range (l.length - N)).map (N + ·)) segs (Array.replicate l.toArray.size false)
def wSeg (P : Program) (l : List Oper) (n N : Nat) (J : World → Prop) (Qf : Fr → World → Prop) : List (List Nat × Option Nat) → Fr → World → Prop
  | [], f, w => wO P l.toArray n false (l.drop N) Qf f w
  | (rs, none) :: more, f, w => ∃ F, (∀ w', J w' → wO P l.toArray n true (opsAt l rs) (fun f' _ => f' = F) f w') ∧ wSeg P l n N J Qf more F w
  | (rs, some c) :: more, f, w => ∃ F, (∀ w', J w' → wO P l.toArray n true (opsAt l rs) (fun f' _ => f' = F) f w') ∧ wO P l.toArray n false (opsAt l [c]) (fun f' w' => J w' ∧ wSeg P l n N J Qf more f' w') F w

theorem wpJ_rds {J : World → Prop} {N M : Nat} {md : Region.Mode} {l : List Oper} {Q : Exit → Act → World → Prop} {F : Fr} (hp : ∀ e a w, e ≠ .normal → ¬ Q e a w)
    (hsel : Region.noSelect l.toArray = true) (hs : Region.sinkB md l.toArray N = true) (hc : Region.chainB md l.toArray N = true) (hn : N < l.toArray.size) (K : Array Bool → Bool) :
    ∀ (rs : List Nat) (listed : Array Bool) (a : Act), a.tmps.size = n → HeadInv md l.toArray N listed → dstsB n (opsAt l rs) = true → rdAt md l.toArray N K rs listed = true → J w →
      (∀ w', J w' → wpStill P l.toArray w' (fun a' => Sm n a' F) (opsAt l rs) a) →
      (∀ a listed, Sm n a F → HeadInv md l.toArray N listed → K listed = true → wpJ P md l.toArray J N Q M listed a w) → wpJ P md l.toArray J N Q (rs.length + M) listed a w
  | [], listed, a, _, inv, _, hB, hJ, h, hr => by
    rw [List.length_nil, Nat.zero_add]
    exact hr a listed (h w hJ) inv hB
  | k :: rs, listed, a, ha, inv, hD, hB, hJ, h, hr => by
    simp only [rdAt, Bool.and_eq_true] at hB
    obtain ⟨⟨⟨hr1, hf⟩, hkn⟩, hB'⟩ := hB
    have hkN : k < N := by rw [← Nat.blt_eq]; exact hkn
    have hk : k < l.length := by simp at hn; omega
    have h0 : l[k]? = some l[k] := List.getElem?_eq_getElem hk
    have h0' : l.toArray[k]? = some l[k] := by simp [h0]
    have e1 : opsAt l (k :: rs) = l[k] :: opsAt l rs := by simp [opsAt, h0]
    have hr' : k ∈ Region.ready md l.toArray listed := by simpa using hr1
    rw [e1] at hD
    simp only [dstsB, Bool.and_eq_true] at hD
    have hst : ∀ w', J w' → ∃ v, YieldsAt P l.toArray w' l[k] v a ∧ wpStill P l.toArray w' (fun a' => Sm n a' F) (opsAt l rs) (a.put l[k].dst v) := fun w' hw' => by
      have := h w' hw'
      rw [e1] at this
      refine yieldsAt_of_stOp h0' ?_
      unfold stOp
      simp only [h0']
      exact this
    have same : ∃ v, ∀ w', J w' → YieldsAt P l.toArray w' l[k] v a ∧ wpStill P l.toArray w' (fun a' => Sm n a' F) (opsAt l rs) (a.put l[k].dst v) := by
      cases hd : l[k].dst with
      | none => rw [hd] at hD; exact absurd hD.1 (by simp)
      | some d =>
        rw [hd] at hD
        simp only [Bool.and_eq_true] at hD
        obtain ⟨⟨hdn, hall⟩, _⟩ := hD
        have hdn : d < n := by rw [← Nat.blt_eq]; exact hdn
        refine ⟨F d, fun w' hw' => ?_⟩
        obtain ⟨v, hv, hv2⟩ := hst w' hw'
        have := still_keep hdn _ _ (fun o ho => by have := List.all_eq_true.1 hall o ho; simpa using this) hv2
        rw [hd] at this
        have e2 : (a.put (some d) v).tmps[d]? = some v := by
          show (a.tmps.setIfInBounds d v)[d]? = some v
          rw [Array.getElem?_setIfInBounds_self_of_lt (by rw [ha]; exact hdn)]
        rw [e2] at this
        cases this
        rw [← hd]
        exact ⟨hv, hv2⟩
    obtain ⟨v, hv⟩ := same
    rw [show (k :: rs).length + M = rs.length + M + 1 by simp; omega]
    exact wpJ_first h0' (Region.noSelect_spec hsel) hs hc hn hkN (fun c a w hq' => absurd hq' (hp _ _ _ (by simp))) _ listed a w inv (Region.free_spec h0' hf) hr' (fun w' hw' => (hv w' hw').1) hJ
      (wpJ_rds hp hsel hs hc hn K rs _ _ (by cases hd : l[k].dst <;> simp [Act.put, ha]) (inv.set hr' hkN) hD.2 hB' hJ (fun w' hw' => (hv w' hw').2) hr)

theorem wpJ_segs {J : World → Prop} {N : Nat} {md : Region.Mode} {l : List Oper} {Q : Exit → Act → World → Prop} {Qf : Fr → World → Prop} (hq : ∀ f a w, Sm n a f → Qf f w → Q .normal a w) (hp : ∀ e a w, e ≠ .normal → ¬ Q e a w)
    (hsel : Region.noSelect l.toArray = true) (hs : Region.sinkB md l.toArray N = true) (hc : Region.chainB md l.toArray N = true) (hn : N < l.toArray.size) (ts : List Nat) (hts : ∀ k ∈ ts, N ≤ k ∧ k < l.length) (hte : opsAt l ts = l.drop N) :
    ∀ (segs : List (List Nat × Option Nat)) (listed : Array Bool) (f : Fr) (a : Act) (w : World), Sm n a f → HeadInv md l.toArray N listed → (segs.all fun s => dstsB n (opsAt l s.1)) = true → segAt md l.toArray N ts segs listed = true → J w →
      wSeg P l n N J Qf segs f w → wpJ P md l.toArray J N Q (segLen segs + ts.length) listed a w
  | [], listed, f, a, w, hsm, inv, _, hB, hJ, h => by
    have := wpJ_of_seq (J := J) (N := N) (md := md) (l := l) (Qf := Qf) hq hp [] ts listed f a w (fun k hk => by cases hk) hts hsm hB (by
      simp only [opsAt, List.filterMap_nil, wJ]
      change wO P l.toArray n false (opsAt l ts) Qf f w
      rw [hte]; exact h)
    exact this
  | (rs, none) :: more, listed, f, a, w, hsm, inv, hD, hB, hJ, h => by
    simp only [List.all_cons, Bool.and_eq_true] at hD
    obtain ⟨F, h1, h2⟩ := h
    simp only [segLen, Nat.add_assoc]
    exact wpJ_rds (F := F) hp hsel hs hc hn _ rs listed a hsm.size inv hD.1 hB hJ (fun w' hw' => wC_mix.stillMono (fun a' h => by obtain ⟨f', h5, h6⟩ := h; exact h6 ▸ h5) (wO_still (h1 w' hw') hsm))
      fun a' listed' hs' inv' hB' => wpJ_segs hq hp hsel hs hc hn ts hts hte more listed' F a' w hs' inv' hD.2 hB' hJ h2
  | (rs, some c) :: more, listed, f, a, w, hsm, inv, hD, hB, hJ, h => by
    simp only [List.all_cons, Bool.and_eq_true] at hD
    obtain ⟨F, h1, h2⟩ := h
    simp only [segLen, Nat.add_assoc]
    refine wpJ_rds (F := F) hp hsel hs hc hn _ rs listed a hsm.size inv hD.1 hB hJ (fun w' hw' => wC_mix.stillMono (fun a' h => by obtain ⟨f', h5, h6⟩ := h; exact h6 ▸ h5) (wO_still (h1 w' hw') hsm))
      fun a' listed' hs' inv' hB' => ?_
    simp only [Bool.and_eq_true, decide_eq_true_eq] at hB'
    obtain ⟨⟨hrd, hcn⟩, hB'⟩ := hB'
    have hcN : c < N := by rw [← Nat.blt_eq]; exact hcn
    rw [show segLen more + (1 + ts.length) = segLen more + ts.length + 1 by omega]
    refine ⟨fun h1 => (by rw [hrd] at h1; cases h1), fun i hi => ?_⟩
    have hi' := hi
    rw [hrd] at hi
    obtain rfl : i = c := by simpa using hi
    have hk : i < l.length := by simp at hn; omega
    have h0 : l[i]? = some l[i] := List.getElem?_eq_getElem hk
    have e1 : opsAt l [i] = [l[i]] := by simp [opsAt, h0]
    rw [e1] at h2
    have h3 := wO_run h2 hs'
    have hw : wpOp P l.toArray (fun e a' w' => e = .normal ∧ ∃ f', Sm n a' f' ∧ J w' ∧ wSeg P l n N J Qf more f' w') i (wpList P l.toArray (fun e a' w' => e = .normal ∧ ∃ f', Sm n a' f' ∧ J w' ∧ wSeg P l n N J Qf more f' w') []) a' w := by
      unfold wpOp
      simp only [List.getElem?_toArray, h0]
      exact h3
    refine wpJ_of_seq.wpOp_mono' (fun a' w' h' => ?_) (fun e a w he h' => absurd h'.1 he) hw
    obtain ⟨_, f', hf', hJ', h4⟩ := h'
    exact ⟨fun _ => hJ', wpJ_segs hq hp hsel hs hc hn ts hts hte more _ f' a' w' hf' (inv'.set hi' hcN) hD.2 hB' hJ' h4⟩

theorem wC_segs {QC : Exit → Fr → World → Prop} {id : Nat} {l : List Oper} {f : Fr} (J : World → Prop) (N : Nat) (segs : List (List Nat × Option Nat)) (hm : P.follows .mixedOrders = true) (hB : segB .any n l N segs = true) (hJ : J w.drew)
    (h : wSeg P l n N J (fun f' w' => QC .normal f' w') segs f w.drew) : wC P n (.region id l.toArray true) QC f w := by
  unfold wC
  intro a ha
  simp only [segB, Bool.and_eq_true] at hB
  obtain ⟨⟨⟨⟨⟨⟨hsel, hn⟩, hs⟩, hc⟩, hD⟩, hlen⟩, hB⟩ := hB
  have hn : N < l.length := by rw [← Nat.blt_eq]; exact hn
  have hlen := Nat.eq_of_beq_eq_true hlen
  refine wp_mono (Q := fun e a' w' => e = .normal ∧ ∃ f', Sm n a' f' ∧ QC .normal f' w') ?_ (by rintro e a' w' ⟨rfl, h⟩; exact h)
  refine wp_region_any hm (wpAny_of_J (J := J) (n := N) _ _ _ _ ?_)
  have inv0 : HeadInv .any l.toArray N (Array.replicate l.toArray.size false) :=
    ⟨by simp, fun j oj _ hl => (by rw [getD_replicate_false] at hl; cases hl), fun t _ ht => getD_in (by simpa using ht) (getD_replicate_false _ _)⟩
  have := wpJ_segs (n := n) (J := J) (N := N) (md := .any) (l := l) (Q := fun e a' w' => e = .normal ∧ ∃ f', Sm n a' f' ∧ QC .normal f' w') (Qf := fun f' w' => QC .normal f' w')
    (fun f a w hs q => ⟨rfl, f, hs, q⟩) (fun e a w he h => he h.1) hsel hs hc (by simpa using hn) ((List.range (l.length - N)).map (N + ·)) (fun k hk => by
      obtain ⟨i, hi, rfl⟩ := List.mem_map.1 hk
      have := List.mem_range.1 hi
      omega) (opsAt_drop l _ N (by omega)) segs (Array.replicate l.toArray.size false) f a w.drew ha inv0 hD hB hJ h
  have e : segLen segs + ((List.range (l.length - N)).map (N + ·)).length = l.toArray.size := by simp; omega
  rw [e] at this
  exact this
end
section
variable {P : Program} {n : Nat} {w0 : World} {f0 : FP} {ops : Array Oper} {rest : List Oper} {QC : Exit → Fr → World → Prop} {f : Fr} {L L0 : List HP}
/-- The segments, on pieces: L0 is what is read of, and kept all the while. -/
def sSeg (P : Program) (n : Nat) (w0 : World) (f0 : FP) (l : List Oper) (N : Nat) (L0 : List HP) (QC : Exit → Fr → World → Prop) (segs : List (List Nat × Option Nat)) (f : Fr) (L : List HP) : Prop := ∀ w, St w0 f0 L w → wSeg P l n N (fun w' => St w0 f0 L0 w') (fun f' w' => QC .normal f' w') segs f w
def sgS (P : Program) (n : Nat) (w0 : World) (f0 : FP) (l : List Oper) (N : Nat) (L0 : List HP) (QC : Exit → Fr → World → Prop) (segs : List (List Nat × Option Nat)) : Exit → Fr → World → Prop := fun _ f' w' => St w0 f0 L0 w' ∧ wSeg P l n N (fun w' => St w0 f0 L0 w') (fun f' w' => QC .normal f' w') segs f' w'
variable {l : List Oper} {N : Nat} {segs : List (List Nat × Option Nat)} {rs : List Nat} {c : Nat}
theorem s_segs {id : Nat} (L0 : List HP) (N : Nat) (segs : List (List Nat × Option Nat)) (hm : P.follows .mixedOrders = true) (hB : segB .any n l N segs = true) (hL0 : PSub w0 f0 L L0) (h : sSeg P n w0 f0 l N L0 QC segs f L) : sC P n w0 f0 (.region id l.toArray true) QC f L :=
  fun w H => wC_segs (J := fun w' => St w0 f0 L0 w') N segs hm hB (hL0 _ (H.idle (Step.drew w _))) (h _ (H.idle (Step.drew w _)))
theorem sg_nil (h : sO P n w0 f0 l.toArray false (l.drop N) QC f L) : sSeg P n w0 f0 l N L0 QC [] f L := fun w H => h w H
theorem sg_rd (F : Fr) (hread : sO P n w0 f0 l.toArray true (opsAt l rs) (QCF F) f L0) (h : sSeg P n w0 f0 l N L0 QC segs F L) : sSeg P n w0 f0 l N L0 QC ((rs, none) :: segs) f L := fun w H => ⟨F, fun w' H' => hread w' H', h w H⟩
theorem sg_wr (F : Fr) (hread : sO P n w0 f0 l.toArray true (opsAt l rs) (QCF F) f L0) (h : sO P n w0 f0 l.toArray false (opsAt l [c]) (sgS P n w0 f0 l N L0 QC segs) F L) : sSeg P n w0 f0 l N L0 QC ((rs, some c) :: segs) f L := fun w H => ⟨F, fun w' H' => hread w' H', h w H⟩
theorem e_sg (h1 : PSub w0 f0 L L0) (h2 : sSeg P n w0 f0 l N L0 QC segs f L) : sE w0 f0 (sgS P n w0 f0 l N L0 QC segs) .normal f L := fun w H => ⟨h1 w H, h2 w H⟩
end
attribute [irreducible] sgS
end
section
open Go Go.RowKit Go.Maps
open Go.WideElems (Fit rg rd_key rg_of)

section
variable {P : Program} {e kt : TypeId} {α : Type} {E : EK P e α} {es : Array MapEntry} {clock n : Nat} {f : Int → Option α}
/-- The keys of a map, each once. -/
theorem Froz.card (hk : P.underlying kt = some (.int .i64)) (h : Froz E kt es clock n f) : ∃ ks : List Int, ks.Nodup ∧ ks.length = es.size ∧ ∀ k, k ∈ ks ↔ f k ≠ none := by
  obtain ⟨hF, _, hw, _, hh⟩ := h
  have key : ∀ x ∈ es.toList, ∃ k : Int, (rg P kt (plainElem (H := Unit) P e) x).1 = .int .i64 k ∧ wfi k := fun x hx => by
    obtain ⟨y, hy⟩ := hF.reads x hx
    obtain ⟨k, _, h2, h3⟩ := keyOf_int_inv hk (rd_key hy)
    exact ⟨k, by rw [rg_of hy, h2], wfi_iff.2 h3⟩
  let ki : MapEntry → Int := fun x => match (rg P kt (plainElem (H := Unit) P e) x).1 with | .int _ k => k | _ => 0
  have hki : ∀ x ∈ es.toList, (rg P kt (plainElem (H := Unit) P e) x).1 = .int .i64 (ki x) ∧ wfi (ki x) := fun x hx => by
    obtain ⟨k, h1, h2⟩ := key x hx
    have : ki x = k := by show (match (rg P kt (plainElem (H := Unit) P e) x).1 with | .int _ k => k | _ => 0) = k; rw [h1]
    rw [this]; exact ⟨h1, h2⟩
  refine ⟨es.toList.map ki, ?_, by simp, fun k => ⟨fun hk' => ?_, fun hk' => ?_⟩⟩
  · have hp := WideShapes.apart_of_rising _ (fit_rising (int_keyed hk) hF)
    rw [List.pairwise_map] at hp
    rw [List.Nodup, List.pairwise_map]
    refine List.Pairwise.imp_of_mem ?_ hp
    intro a b ha hb hne heq
    exact hne (by rw [(hki a ha).1, (hki b hb).1, heq])
  · obtain ⟨x, hx, rfl⟩ := List.mem_map.1 hk'
    obtain ⟨h1, h2⟩ := hki x hx
    have h3 := (hh _ h2).1
    have h4 : Maps.has (DataW.map ((es.toList.map (rg P kt (plainElem (H := Unit) P e))).foldr DataW.insert [])) (.int .i64 (ki x)) = true := by
      show (List.any _ _) = true
      rw [List.any_eq_true]
      exact ⟨rg P kt (plainElem (H := Unit) P e) x, mem_sorted.2 (List.mem_map.2 ⟨x, hx, rfl⟩), by rw [h1, sameKey_i]; simp⟩
    rw [h4] at h3
    intro h5; rw [h5] at h3; cases h3
  · have h2 := hw k hk'
    have h3 := (hh k h2).1
    have h4 : (f k).isSome = true := by cases hf : f k with | none => exact absurd hf hk' | some _ => rfl
    rw [h4] at h3
    have h3 : (List.any _ _) = true := h3
    rw [List.any_eq_true] at h3
    obtain ⟨p, hp, hs⟩ := h3
    obtain ⟨x, hx, rfl⟩ := List.mem_map.1 (mem_sorted.1 hp)
    rw [(hki x hx).1, sameKey_i] at hs
    exact List.mem_map.2 ⟨x, hx, by simpa using hs⟩
theorem nodup_le {ks us : List Int} (h : ks.Nodup) (hs : ∀ k ∈ ks, k ∈ us) : ks.length ≤ us.length := by
  induction ks generalizing us with
  | nil => exact Nat.zero_le _
  | cons k ks ih =>
    obtain ⟨h1, h2⟩ := List.nodup_cons.1 h
    have hk := hs k (by simp)
    have : ks.length ≤ (us.erase k).length := ih h2 fun j hj => by
      have hjk : j ≠ k := fun e => h1 (e ▸ hj)
      exact (List.mem_erase_of_ne hjk).2 (hs j (by simp [hj]))
    rw [List.length_erase_of_mem hk] at this
    have := List.length_pos_of_mem hk
    simp only [List.length_cons]; omega
end
section
variable {P : Program} {n : Nat} {w0 w : World} {f0 : FP} {ops : Array Oper} {m : Bool} {rest : List Oper} {QC : Exit → Fr → World → Prop} {f : Fr} {L : List HP} {x y z : Operand} {c1 : Code}
variable {d : Tmp} {ty t yt e kt : TypeId} {pos : String} {after : Array Edge} {α : Type} {E : EK P e α} {N : Nat} {F : Int → Option α} {put : HP → List HP} {b : Nat} {k : Int}
/-- len of a map of the call's own. -/
theorem s_lenC [hm : MpT P t kt e] (hx : ev f x = .map (some b)) [h : PcM L b (mp E kt b N F) put] (hn : ∀ ks : List Int, ks.Nodup → (∀ k, k ∈ ks ↔ F k ≠ none) → sO P n w0 f0 ops m rest QC (up f d (.int .i64 (ks.length : Nat))) L) (hd : Nat.blt d n = true := by rfl) : sO P n w0 f0 ops m (⟨some d, .call { callee := .builtin .len, args := #[x], argTypes := #[t] }, ty, pos, after, none⟩ :: rest) QC f L := by
  intro w H
  obtain ⟨i, hi, _⟩ := h.at_
  obtain ⟨g, hA, _⟩ := H.focus i hi
  obtain ⟨es, clock, h1, h2⟩ := hA.2.froz
  obtain ⟨ks, h3, h4, h5⟩ := h2.card hm.k
  refine o_pure (v := .int .i64 (ks.length : Nat)) rfl hd ?_ (hn ks h3 h5 w H)
  simp [execOp, resolve, invoke, builtin, hx, Builtin.len_, run_underlying hm.u, goInt, Result.andThen, getObj, h1, Sem.run, h4]
/-- .. of one that is only read -/
theorem s_lenCS [hm : MpT P t kt e] {v : Option Nat} (hx : ev f x = .map v) [h : RdMp E kt (okOf w0 f0) w0 v N F] (hn : ∀ ks : List Int, ks.Nodup → (∀ k, k ∈ ks ↔ F k ≠ none) → sO P n w0 f0 ops m rest QC (up f d (.int .i64 (ks.length : Nat))) L) (hd : Nat.blt d n = true := by rfl) : sO P n w0 f0 ops m (⟨some d, .call { callee := .builtin .len, args := #[x], argTypes := #[t] }, ty, pos, after, none⟩ :: rest) QC f L := by
  intro w H
  rcases h.h with ⟨rfl, h0⟩ | ⟨b, rfl, hok, hM⟩
  · refine o_pure (v := .int .i64 ((([] : List Int).length : Nat) : Int)) rfl hd ?_ (hn [] List.nodup_nil (fun k => by simp [h0]) w H)
    simp [execOp, resolve, invoke, builtin, hx, Builtin.len_, run_underlying hm.u, goInt, Result.andThen]
  · obtain ⟨es, clock, hb, hz⟩ := hM.froz
    obtain ⟨ks, h3, h4, h5⟩ := hz.card hm.k
    refine o_pure (v := .int .i64 (ks.length : Nat)) rfl hd ?_ (hn ks h3 h5 w H)
    have hb' := (H.ok0 b hok).2.trans hb
    simp [execOp, resolve, invoke, builtin, hx, Builtin.len_, run_underlying hm.u, goInt, Result.andThen, getObj, hb', Sem.run, h4]
/-- A map has no more entries than it may have keys. -/
theorem PSub.mpCut (us : List Int) (hk : P.underlying kt = some (.int .i64)) (hu : ∀ k, F k ≠ none → k ∈ us) : PSub w0 f0 (mp E kt b N F :: L) (mp E kt b us.length F :: L) := fun w H => H.turn 0 rfl fun g hg => ⟨hg.1, by
  obtain ⟨es, clock, h1, h2⟩ := hg.2.froz
  obtain ⟨ks, h3, h4, h5⟩ := h2.card hk
  exact IsM.of_froz h1 ⟨h2.1, by rw [← h4]; exact nodup_le h3 fun k hk => hu k ((h5 k).1 hk), h2.2.2⟩⟩
/-- What a map holds is fit. -/
theorem s_wfM {c : Code} (b : Nat) [h : PcM L b (mp E kt b N F) put] (hn : (∀ k, F k ≠ none → wfi k) → sC P n w0 f0 c QC f L) : sC P n w0 f0 c QC f L := by
  intro w H
  obtain ⟨i, hi, _⟩ := h.at_
  obtain ⟨g, hA, _⟩ := H.focus i hi
  obtain ⟨es, clock, h1, h2⟩ := hA.2.froz
  exact hn h2.2.2.1 w H
/-! functions against nil -/
def isFn : Value → Bool
  | .nilFunc => false
  | _ => true
class FnT (P : Program) (t : TypeId) : Prop where
  u : ∃ s, P.underlying t = some s ∧ match s with | .func .. => True | _ => False
theorem run_fnil {p r : Array TypeId} {vd : Bool} (m : Nat) (ht : P.underlying t = some (.func p r vd)) : (Op.equalIn (m + 1) t .nilFunc .nilFunc).run P w = .ok true w := by
  simp [Op.equalIn, run_underlying ht]
theorem run_fnot {p r : Array TypeId} {vd : Bool} {g : Fn} {a c : Array Value} (m : Nat) (ht : P.underlying t = some (.func p r vd)) : (Op.equalIn (m + 1) t (.func g a c) .nilFunc).run P w = .ok false w := by
  simp [Op.equalIn, run_underlying ht]
theorem s_fnn [h : FnT P t] {p : Value} (hx : ev f x = p) (hp : p = .nilFunc ∨ ∃ g a c, p = .func g a c) (hy : ev f y = .nilFunc) (hn : sO P n w0 f0 ops m rest QC (up f d (.bool (isFn p))) L) (hd : Nat.blt d n = true := by rfl) :
    sO P n w0 f0 ops m (⟨some d, .binOp .neq t x y yt, ty, pos, after, none⟩ :: rest) QC f L := by
  intro w H
  obtain ⟨s, ht, hs⟩ := h.u
  refine o_pure (v := .bool (isFn p)) rfl hd ?_ (hn w H)
  show (Sem.run P (do pure (Next.value (← (do eqGuard .neq t x y (ev f x) (ev f y); binOp .neq t (ev f x) (ev f y))))) w) = _
  rw [hx, hy]
  cases s <;> simp at hs
  rcases hp with rfl | ⟨g, a, c, rfl⟩
  · have he : (Op.equal t .nilFunc .nilFunc).run P w = .ok true w := run_fnil 9999 ht
    simp [eqGuard, binOp, he, Result.andThen, isFn]
  · have he : (Op.equal t (.func g a c) .nilFunc).run P w = .ok false w := run_fnot 9999 ht
    simp [eqGuard, binOp, he, Result.andThen, isFn]
end
/-- Cells of one type, one behind the other. -/
structure Vn (k : Nat) (α : Type) where
  xs : List α
  len : xs.length = k
instance {k : Nat} {α : Type} [I : Enc α] : Enc (Vn (k + 1) α) where
  enc := fun v => v.xs.flatMap I.enc
  sz := (k + 1) * I.sz
  dflt := ⟨List.replicate (k + 1) I.dflt, by simp⟩
  len := fun v => by rw [flat_len fun a _ => I.len a, v.len]
  one := fun v u h => by
    obtain ⟨a, _, h2⟩ := List.mem_flatMap.1 h
    exact I.one a u h2
  pos := Nat.mul_pos (Nat.succ_pos k) I.pos
def Vn.set {k : Nat} {α : Type} (v : Vn k α) (j : Nat) (x : α) : Vn k α := ⟨v.xs.set j x, by rw [List.length_set, v.len]⟩
section
variable {P : Program} {n : Nat} {w0 w : World} {f0 : FP} {ops : Array Oper} {m : Bool} {rest : List Oper} {QC : Exit → Fr → World → Prop} {f : Fr} {L : List HP} {x y : Operand}
variable {d : Tmp} {ty t e : TypeId} {pos : String} {after : Array Edge} {put : HP → List HP} {b j k : Nat}
theorem vn_at {v : Vn (k + 1) Bool} (hj : j < k + 1) : (Enc.enc v)[j * 1]? = some (.bool (nth v.xs j)) := by
  show (v.xs.flatMap fun x => [Value.bool x])[j * 1]? = _
  rw [flat_one, List.getElem?_map, Nat.mul_one, nth_some (by rw [v.len]; exact hj)]; rfl
theorem add_at0 : (⟨b, 0, none⟩ : Addr).add j = ⟨b, j, none⟩ := by
  rw [add_spot rfl]
  show (⟨b, 0 + j, none⟩ : Addr) = _
  rw [Nat.zero_add]
theorem s_ldVn [hT : C1 P t] {v : Vn (k + 1) Bool} (hx : ev f x = .pointer (some ((⟨b, 0, none⟩ : Addr).add (j * 1)))) [h : PcB L b (var e b v) put] (hj : j < k + 1)
    (hn : sO P n w0 f0 ops m rest QC (up f d (.bool (nth v.xs j))) L) (hd : Nat.blt d n = true := by rfl) : sO P n w0 f0 ops m (⟨some d, .load t x, ty, pos, after, none⟩ :: rest) QC f L :=
  s_ldB (o := j * 1) (by rw [hx, add_at0]) (vn_at hj) hn hd
theorem s_stVn [hT : C1 P t] {v : Vn (k + 1) Bool} {u : Bool} (hx : ev f x = .pointer (some ((⟨b, 0, none⟩ : Addr).add (j * 1)))) [h : PcB L b (var e b v) put] (hv : (ev f y).cells.toList = [.bool u]) (hj : j < k + 1)
    (hn : sO P n w0 f0 ops false rest QC f (put (var e b (v.set j u)))) : sO P n w0 f0 ops false (⟨none, .store t x y, ty, pos, after, none⟩ :: rest) QC f L :=
  s_stB (v.set j u) (o := j * 1) (by rw [hx, add_at0]) hv (by
    show (v.xs.flatMap fun x => [Value.bool x]).set (j * 1) (.bool u) = ((v.xs.set j u).flatMap fun x => [Value.bool x])
    rw [flat_one, flat_one, Nat.mul_one, List.map_set]) (by show j * 1 < (k + 1) * 1; omega) hn
end
end
section
open Go Go.RowKit

def drB (l : List Oper) (N : Nat) : Bool := Region.noSelect l.toArray && Nat.blt N l.length && Region.sinkB .any l.toArray N && Region.chainB .any l.toArray N
structure DrB (l : List Oper) (N : Nat) : Prop where
  sel : Region.noSelect l.toArray = true
  n : N < l.length
  s : Region.sinkB .any l.toArray N = true
  c : Region.chainB .any l.toArray N = true
theorem drB_of {l : List Oper} {N : Nat} (h : drB l N = true) : DrB l N := by
  simp only [drB, Bool.and_eq_true] at h
  exact ⟨h.1.1.1, by rw [← Nat.blt_eq]; exact h.1.1.2, h.1.2, h.2⟩
section
variable {P : Program} {n : Nat} {w : World} {f : Fr}
def wDJ (P : Program) (n : Nat) (l : List Oper) (N : Nat) (J : World → Prop) (Qf : Fr → World → Prop) (fuel : Nat) (listed : Array Bool) (f : Fr) (w : World) : Prop :=
  HeadInv .any l.toArray N listed → J w → ∀ a, Sm n a f → wpJ P .any l.toArray J N (fun e a' w' => e = .normal ∧ ∃ f', Sm n a' f' ∧ Qf f' w') fuel listed a w
variable {l : List Oper} {N : Nat} {J : World → Prop} {Qf : Fr → World → Prop} {fuel : Nat} {listed li' : Array Bool}
theorem wD_end (hD : DrB l N) (hB : seqAt .any l.toArray ((List.range (l.length - N)).map (N + ·)) listed = true) (hf : fuel = l.length - N) (h : wO P l.toArray n false (l.drop N) Qf f w) : wDJ P n l N J Qf fuel listed f w := by
  intro inv hJ a hs
  have hn := hD.n
  have := wpJ_of_seq (J := J) (N := N) (md := .any) (l := l) (Q := fun e a' w' => e = .normal ∧ ∃ f', Sm n a' f' ∧ Qf f' w') (Qf := Qf) (fun f a w hs q => ⟨rfl, f, hs, q⟩) (fun e a w he h => he h.1) [] ((List.range (l.length - N)).map (N + ·)) listed f a w (fun k hk => by cases hk) (fun k hk => by
      obtain ⟨i, hi, rfl⟩ := List.mem_map.1 hk
      have := List.mem_range.1 hi
      omega) hs hB (by
      simp only [opsAt, List.filterMap_nil, wJ]
      change wO P l.toArray n false (opsAt l ((List.range (l.length - N)).map (N + ·))) Qf f w
      rw [opsAt_drop l _ N (by omega)]; exact h)
  rw [hf]
  simpa using this
theorem wD_rd (hD : DrB l N) (rs : List Nat) (F : Fr) (hB : (dstsB n (opsAt l rs) && rdAt .any l.toArray N (fun li => decide (li = li')) rs listed) = true) (hread : ∀ w', J w' → wO P l.toArray n true (opsAt l rs) (fun f' _ => f' = F) f w') (h : wDJ P n l N J Qf fuel li' F w) : wDJ P n l N J Qf (rs.length + fuel) listed f w := by
  intro inv hJ a hs
  rw [Bool.and_eq_true] at hB
  refine wpJ_rds (F := F) (fun e a w he h => he h.1) hD.sel hD.s hD.c (by simpa using hD.n) (fun li => decide (li = li')) rs listed a hs.size inv hB.1 hB.2 hJ (fun w' hw' => wC_mix.stillMono (fun a' h => by obtain ⟨f', h5, h6⟩ := h; exact h6 ▸ h5) (wO_still (hread w' hw') hs)) fun a' li hs' inv' hk => ?_
  have hk := of_decide_eq_true hk
  subst hk
  exact h inv' hJ a' hs'
def AllI (p : Nat → Prop) : List Nat → Prop
  | [] => True
  | i :: is => p i ∧ AllI p is
theorem AllI.mem {p : Nat → Prop} : ∀ {is : List Nat}, AllI p is → ∀ i ∈ is, p i
  | _ :: _, ⟨h, k⟩, i, hi => by
    rcases List.mem_cons.1 hi with rfl | hi
    · exact h
    · exact k.mem i hi
theorem wD_all (rs : List Nat) (hr : (decide (Region.ready .any l.toArray listed = rs) && !rs.isEmpty && rs.all fun i => Nat.blt i N && Nat.blt i l.length) = true)
    (h : ∀ i ∈ rs, wO P l.toArray n false (opsAt l [i]) (fun f' w' => J w' ∧ wDJ P n l N J Qf fuel (listed.setIfInBounds i true) f' w') f w) : wDJ P n l N J Qf (fuel + 1) listed f w := by
  intro inv hJ a hs
  simp only [Bool.and_eq_true, decide_eq_true_eq, Bool.not_eq_true'] at hr
  obtain ⟨⟨hrd, hne⟩, hlt⟩ := hr
  refine ⟨fun h1 => ?_, fun i hi => ?_⟩
  · rw [hrd] at h1; subst h1; cases hne
  · have hi' := hi
    rw [hrd] at hi
    have hl := List.all_eq_true.1 hlt i hi
    rw [Bool.and_eq_true, Nat.blt_eq, Nat.blt_eq] at hl
    have h0 : l[i]? = some l[i] := List.getElem?_eq_getElem hl.2
    have h2 := h i hi
    rw [show opsAt l [i] = [l[i]] by simp [opsAt, h0]] at h2
    have h3 := wO_run h2 hs
    have hw : wpOp P l.toArray (fun e a' w' => e = .normal ∧ ∃ f', Sm n a' f' ∧ J w' ∧ wDJ P n l N J Qf fuel (listed.setIfInBounds i true) f' w') i (wpList P l.toArray (fun e a' w' => e = .normal ∧ ∃ f', Sm n a' f' ∧ J w' ∧ wDJ P n l N J Qf fuel (listed.setIfInBounds i true) f' w') []) a w := by
      unfold wpOp
      simp only [List.getElem?_toArray, h0]
      exact h3
    refine wpJ_of_seq.wpOp_mono' (fun a' w' h' => ?_) (fun e a w he h' => absurd h'.1 he) hw
    obtain ⟨_, f', hf', hJ', h4⟩ := h'
    exact ⟨fun _ => hJ', h4 (inv.set hi' hl.1) hJ' a' hf'⟩
theorem wC_draw {QC : Exit → Fr → World → Prop} {id : Nat} (J : World → Prop) (N : Nat) (hm : P.follows .mixedOrders = true) (hB : drB l N = true) (hJ : J w.drew)
    (h : DrB l N → wDJ P n l N J (fun f' w' => QC .normal f' w') l.length (Array.replicate l.length false) f w.drew) : wC P n (.region id l.toArray true) QC f w := by
  unfold wC
  intro a ha
  have hD := drB_of hB
  refine wp_mono (Q := fun e a' w' => e = .normal ∧ ∃ f', Sm n a' f' ∧ QC .normal f' w') ?_ (by rintro e a' w' ⟨rfl, h⟩; exact h)
  refine wp_region_any hm (wpAny_of_J (J := J) (n := N) _ _ _ _ ?_)
  have inv0 : HeadInv .any l.toArray N (Array.replicate l.toArray.size false) :=
    ⟨by simp, fun j oj _ hl => (by rw [getD_replicate_false] at hl; cases hl), fun t _ ht => getD_in (by simpa using ht) (getD_replicate_false _ _)⟩
  exact h hD inv0 hJ a ha
end
section
variable {P : Program} {n : Nat} {w0 : World} {f0 : FP} {ops : Array Oper} {rest : List Oper} {QC : Exit → Fr → World → Prop} {f : Fr} {L L0 : List HP}
/-- On pieces: L0 is what is read of, and kept all the while. -/
def sD (P : Program) (n : Nat) (w0 : World) (f0 : FP) (l : List Oper) (N : Nat) (L0 : List HP) (QC : Exit → Fr → World → Prop) (fuel : Nat) (listed : Array Bool) (f : Fr) (L : List HP) : Prop := ∀ w, St w0 f0 L w → wDJ P n l N (fun w' => St w0 f0 L0 w') (fun f' w' => QC .normal f' w') fuel listed f w
def sdS (P : Program) (n : Nat) (w0 : World) (f0 : FP) (l : List Oper) (N : Nat) (L0 : List HP) (QC : Exit → Fr → World → Prop) (fuel : Nat) (listed : Array Bool) : Exit → Fr → World → Prop := fun _ f' w' => St w0 f0 L0 w' ∧ wDJ P n l N (fun w' => St w0 f0 L0 w') (fun f' w' => QC .normal f' w') fuel listed f' w'
variable {l : List Oper} {N fuel : Nat} {listed li' : Array Bool}
theorem s_draw {id : Nat} (L0 : List HP) (N : Nat) (hm : P.follows .mixedOrders = true) (hB : drB l N = true) (hL0 : PSub w0 f0 L L0) (h : DrB l N → sD P n w0 f0 l N L0 QC l.length (Array.replicate l.length false) f L) : sC P n w0 f0 (.region id l.toArray true) QC f L :=
  fun w H => wC_draw (J := fun w' => St w0 f0 L0 w') N hm hB (hL0 _ (H.idle (Step.drew w _))) fun hD => h hD _ (H.idle (Step.drew w _))
theorem d_rd (li' : Array Bool) (rs : List Nat) (F : Fr) (hD : DrB l N) (hB : (dstsB n (opsAt l rs) && rdAt .any l.toArray N (fun li => decide (li = li')) rs listed) = true) (hread : sO P n w0 f0 l.toArray true (opsAt l rs) (QCF F) f L0) (h : sD P n w0 f0 l N L0 QC fuel li' F L) : sD P n w0 f0 l N L0 QC (rs.length + fuel) listed f L :=
  fun w H => wD_rd hD rs F hB (fun w' H' => hread w' H') (h w H)
theorem d_all (rs : List Nat) (hr : (decide (Region.ready .any l.toArray listed = rs) && !rs.isEmpty && rs.all fun i => Nat.blt i N && Nat.blt i l.length) = true) (h : AllI (fun i => sO P n w0 f0 l.toArray false (opsAt l [i]) (sdS P n w0 f0 l N L0 QC fuel (listed.setIfInBounds i true)) f L) rs) : sD P n w0 f0 l N L0 QC (fuel + 1) listed f L :=
  fun w H => wD_all rs hr fun i hi => h.mem i hi w H
theorem d_end (hD : DrB l N) (hB : seqAt .any l.toArray ((List.range (l.length - N)).map (N + ·)) listed = true) (hf : fuel = l.length - N) (h : sO P n w0 f0 l.toArray false (l.drop N) QC f L) : sD P n w0 f0 l N L0 QC fuel listed f L := fun w H => wD_end hD hB hf (h w H)
theorem e_sd (h1 : PSub w0 f0 L L0) (h2 : sD P n w0 f0 l N L0 QC fuel listed f L) : sE w0 f0 (sdS P n w0 f0 l N L0 QC fuel listed) .normal f L := fun w H => ⟨h1 w H, h2 w H⟩
end
attribute [irreducible] sdS
section
variable {P : Program} {n : Nat} {w0 : World} {f0 : FP} {QC : Exit → Fr → World → Prop} {f : Fr} {L : List HP} {c1 c2 : Code} {σ : Type}
/-- As s_cut, behind a seq that is open. -/
theorem s_cutI (S : σ → List (Nat × Value)) (I : σ → List HP) (J : σ → Prop) (h1 : sC P n w0 f0 c1 (ctS w0 f0 QC S I J) f L)
    (h2 : ∀ f s, J s → sC P n w0 f0 c2 QC (ups f (S s)) (I s)) : sC P n w0 f0 c1 (sqS P n c2 QC) f L := by
  intro w H
  refine wC_mono (h1 w H) ?_
  intro e f1 w1 q
  unfold ctS at q
  unfold sqS
  cases e with
  | normal =>
    obtain ⟨s, q1, q2, q3⟩ := q
    have := h2 f1 s q2 w1 q3
    rw [ups_fits q1] at this
    exact this
  | _ => exact q
/-- .. whatever comes behind. -/
theorem s_cutE (S : σ → List (Nat × Value)) (I : σ → List HP) (J : σ → Prop) (h1 : sC P n w0 f0 c1 (ctS w0 f0 QC S I J) f L)
    (h2 : ∀ f s, J s → sE w0 f0 QC .normal (ups f (S s)) (I s)) : sC P n w0 f0 c1 QC f L := by
  intro w H
  refine wC_mono (h1 w H) ?_
  intro e f1 w1 q
  unfold ctS at q
  cases e with
  | normal =>
    obtain ⟨s, q1, q2, q3⟩ := q
    have := h2 f1 s q2 w1 q3
    rw [ups_fits q1] at this
    exact this
  | _ => exact q
end
/-! stars: many pieces in one -/
section
variable {w0 w : World} {f0 : FP} {L ps : List HP}
theorem PSub.unstar : PSub w0 f0 (star ps :: L) (ps ++ L) := fun w H => by
  obtain ⟨f, ⟨f1, f2, e1, e2, h1, h2⟩, hf⟩ := H.sf
  exact ⟨H.step, f, SF.app.2 ⟨f1, f2, e1, e2, h1, h2⟩, hf⟩
theorem PSub.mkstar : PSub w0 f0 (ps ++ L) (star ps :: L) := fun w H => by
  obtain ⟨f, h, hf⟩ := H.sf
  obtain ⟨f1, f2, e1, e2, h1, h2⟩ := SF.app.1 h
  exact ⟨H.step, f, ⟨f1, f2, e1, e2, h1, h2⟩, hf⟩
/-- One piece of a star, taken out; and laid back, turned. -/
theorem PSub.starOut {j : Nat} {R : HP} (hj : ps[j]? = some R) : PSub w0 f0 (star ps :: L) (R :: star (ps.eraseIdx j) :: L) := fun w H => (H.pull 0 rfl j hj).head
theorem PSub.starIn {j : Nat} {R : HP} (hj : j < ps.length) : PSub w0 f0 (R :: star (ps.eraseIdx j) :: L) (star (ps.set j R) :: L) := fun w H => H.last.push 0 j rfl hj
theorem PSub.starNil : PSub w0 f0 L (star [] :: L) := fun w H => H.star0.head
theorem PSub.starNew {R : HP} : PSub w0 f0 (R :: star ps :: L) (star (ps ++ [R]) :: L) := fun w H => H.last.more 0 rfl
/-- What lies in a star lies somewhere. -/
theorem star_at {g : FP} {X : HP} (h : (star ps).sat w g) {i : Nat} (hi : ps[i]? = some X) : ∃ g1, X.sat w g1 ∧ ∀ b, g1 b → g b := by
  have h : SF ps w g := h
  obtain ⟨g1, g2, e1, _, e3, _⟩ := h.focus i hi
  exact ⟨g1, e3, fun b hb => (e1 b).2 (.inl hb)⟩
theorem star_mem {α : Type} {F : α → HP} {g : FP} {xs : List α} (h : (star (xs.map F)).sat w g) {x : α} (hx : x ∈ xs) : ∃ g1, (F x).sat w g1 ∧ ∀ b, g1 b → g b := by
  obtain ⟨i, hi, rfl⟩ := List.getElem_of_mem hx
  exact star_at h (by rw [List.getElem?_map, List.getElem?_eq_getElem hi]; rfl)
variable {α : Type} [I : Enc α]
theorem own_rd {ok : FP} {g : FP} {e : TypeId} {s : Sl α} [D : Dp α] (h : (own e s.A s.xs.length s.c s.xs).sat w g) (hok : ∀ b, g b → ok b) (hd : ∀ x ∈ s.xs, D.rd ok w x) : RdD ok w s :=
  ⟨⟨row.rd (show (row s.A s.xs.length s.c e I.sz (s.xs.flatMap I.enc)).sat w g from h) hok, hd⟩⟩
end
section
variable {w0 : World} {f0 : FP} {L : List HP} {a b c : HP}
theorem PSub.mk2 : PSub w0 f0 (a :: b :: L) (star [a, b] :: L) := PSub.mkstar (ps := [a, b])
theorem PSub.mk3 : PSub w0 f0 (a :: b :: c :: L) (star [a, b, c] :: L) := PSub.mkstar (ps := [a, b, c])
end
theorem take_set {α : Type} {l : List α} {j : Nat} {u : α} (h : j < l.length) : (l.set j u).take (j + 1) = l.take j ++ [u] := by
  apply List.ext_getElem?
  intro q
  rw [List.getElem?_take]
  split
  · rename_i hq
    by_cases e : q = j
    · subst e; rw [List.getElem?_set_self h, List.getElem?_append_right (by rw [List.length_take]; omega), show q - (l.take q).length = 0 by rw [List.length_take]; omega]; rfl
    · rw [List.getElem?_set_ne (Ne.symm e), List.getElem?_append_left (by rw [List.length_take]; omega), List.getElem?_take_of_lt (by omega)]
  · rename_i hq
    rw [List.getElem?_eq_none (by rw [List.length_append, List.length_take, List.length_singleton]; omega)]
theorem nth_set_ge {α : Type} [Enc α] {l : List α} {j m : Nat} {u : α} (h : j + 1 ≤ m) : nth (l.set j u) m = nth l m := by
  unfold nth; rw [List.getD_eq_getElem?_getD, List.getD_eq_getElem?_getD, List.getElem?_set_ne (by omega)]
theorem map_set_same {α β : Type} {e : α → β} {l l0 : List α} {j : Nat} {u : α} [Enc α] (h : l.map e = l0.map e) (hj : j < l.length) (hu : e u = e (nth l0 j)) : (l.set j u).map e = l0.map e := by
  rw [List.map_set, h, hu]
  have hl : l.length = l0.length := by have := congrArg List.length h; simpa using this
  apply List.ext_getElem?
  intro q
  by_cases e2 : q = j
  · subst e2
    rw [List.getElem?_set_self (by rw [List.length_map]; omega), List.getElem?_map, nth_some (by omega)]; rfl
  · rw [List.getElem?_set_ne (Ne.symm e2)]
section
variable {w0 : World} {f0 : FP} {L l : List HP} {a b : HP}
theorem PSub.starCons : PSub w0 f0 (star (a :: l) :: L) (a :: star l :: L) := PSub.starOut (ps := a :: l) (j := 0) rfl
theorem PSub.starConsI : PSub w0 f0 (a :: star l :: L) (star (a :: l) :: L) := fun w H => by
  obtain ⟨g, ⟨f1, f2, e1, e2, h1, h2⟩, hb⟩ := H.sf
  obtain ⟨f3, f4, e3, e4, h3, h4⟩ := h2
  refine ⟨H.step, g, ⟨fun b => f1 b ∨ f3 b, f4, fun b => ?_, fun b hb hb4 => ?_, ⟨f1, f3, fun b => Iff.rfl, fun b hb1 hb3 => e2 b hb1 ((e3 b).2 (.inl hb3)), h1, h3⟩, h4⟩, hb⟩
  · rw [e1 b, e3 b, or_assoc]
  · rcases hb with hb | hb
    · exact e2 b hb ((e3 b).2 (.inr hb4))
    · exact e4 b hb hb4
theorem PSub.un2 : PSub w0 f0 (star [a, b] :: L) (a :: b :: L) := PSub.unstar (ps := [a, b])
theorem PSub.un3 {c : HP} : PSub w0 f0 (star [a, b, c] :: L) (a :: b :: c :: L) := PSub.unstar (ps := [a, b, c])
theorem PSub.starDrop {α : Type} [Enc α] {F : α → HP} {xs : List α} {k : Nat} (h : k < xs.length) : PSub w0 f0 (star ((xs.drop k).map F) :: L) (F (nth xs k) :: star ((xs.drop (k + 1)).map F) :: L) := by
  rw [List.drop_eq_getElem_cons h, List.map_cons, ← nth_get h]
  exact PSub.starCons
end
section
variable {P : Program} {n : Nat} {w0 : World} {f0 : FP} {ops : Array Oper} {m : Bool} {rest : List Oper} {QC : Exit → Fr → World → Prop} {f : Fr} {L : List HP} {x : Operand}
variable {d : Tmp} {ty t : TypeId} {pos : String} {after : Array Edge} {α : Type} {I : Enc α} {sz : Nat}
/-- A field of a field of an element that is only read. -/
theorem s_ldSF2 [hT : C1 P t] [Dp α] {s : Sl α} {j o1 o2 : Nat} (hx : ev f x = pt s.A (j * sz + o1 + o2)) [h : RdD (okOf w0 f0) w0 s] (hz : I.sz = sz) (h1 : j < s.xs.length) {v : Value} (hv : (I.enc (nth s.xs j))[o1 + o2]? = some v)
    (hn : sO P n w0 f0 ops m rest QC (up f d v) L) (hd : Nat.blt d n = true := by rfl) : sO P n w0 f0 ops m (⟨some d, .load t x, ty, pos, after, none⟩ :: rest) QC f L :=
  s_ldSF (o := o1 + o2) (by rw [← Nat.add_assoc]; exact hx) hz h1 hv hn hd
end
theorem PSub.thaw {P : Program} {e kt : TypeId} {α : Type} {E : EK P e α} {w0 : World} {f0 : FP} {L : List HP} {b N clock : Nat} {F : Int → Option α} {es : Array MapEntry} : PSub w0 f0 (mpz E kt b N F es clock :: L) (mp E kt b N F :: L) := fun w H => H.thaw 0 rfl
theorem var_congr {α : Type} [I : Enc α] {e : TypeId} {b : Nat} {u u' : α} (h : I.enc u = I.enc u') : var e b u = var e b u' := by unfold var; rw [h]
theorem own_congr {α : Type} [I : Enc α] {e : TypeId} {A : Option Addr} {l c : Nat} {u u' : List α} (h : u.flatMap I.enc = u'.flatMap I.enc) : own e A l c u = own e A l c u' := by unfold own; rw [h]
theorem enc_app {α : Type} [Enc α] {A : Option Addr} {c : Nat} {xs : List α} {a : α} : ([Value.slice A (xs.length + 1) c] : List Value) = Enc.enc (⟨A, c, xs ++ [a]⟩ : Sl α) := by
  show _ = [Value.slice A (xs ++ [a]).length c]
  rw [List.length_append]; rfl
end
section
open Go Go.RowKit

def exH {α : Type} (F : α → HP) : HP where
  sat w g := ∃ x, (F x).sat w g
  loc := fun ⟨x, h⟩ hk => ⟨x, (F x).loc h hk⟩
  dom := fun ⟨x, h⟩ b hb => (F x).dom h b hb
def HP.le (X Y : HP) : Prop := ∀ w g, X.sat w g → Y.sat w g
theorem HP.le.refl (X : HP) : HP.le X X := fun _ _ h => h
theorem HP.le.trans {X Y Z : HP} (h : HP.le X Y) (k : HP.le Y Z) : HP.le X Z := fun w g q => k w g (h w g q)
theorem HP.le.ex {α : Type} {F : α → HP} (x : α) : HP.le (F x) (exH F) := fun _ _ h => ⟨x, h⟩
inductive LeL : List HP → List HP → Prop
  | nil : LeL [] []
  | cons {X Y : HP} {L L' : List HP} (h : HP.le X Y) (k : LeL L L') : LeL (X :: L) (Y :: L')
section
variable {P : Program} {n : Nat} {w0 w : World} {f0 : FP} {ops : Array Oper} {m : Bool} {QC : Exit → Fr → World → Prop} {f : Fr} {L L' : List HP} {c : Code} {lo : List Oper} {e : Exit} {X Y : HP} {α : Type} {F : α → HP}
theorem SF.le : ∀ {L L' : List HP} {w : World} {g : FP}, LeL L L' → SF L w g → SF L' w g
  | [], [], _, _, _, h => h
  | X :: L, Y :: L', w, g, .cons hx hl, h => by
    obtain ⟨f1, f2, e1, e2, e3, e4⟩ := h
    exact ⟨f1, f2, e1, e2, hx _ _ e3, SF.le hl e4⟩
theorem HP.le.star {l l' : List HP} (h : LeL l l') : HP.le (star l) (star l') := fun w g q => SF.le (show LeL l l' from h) q
theorem forall₂_map {β : Type} {F G : β → HP} : ∀ (l : List β), (∀ x ∈ l, HP.le (F x) (G x)) → LeL (l.map F) (l.map G)
  | [], _ => .nil
  | x :: l, h => .cons (h x (by simp)) (forall₂_map l fun y hy => h y (by simp [hy]))
theorem HP.le.stars {β : Type} {F G : β → HP} {l : List β} (h : ∀ x ∈ l, HP.le (F x) (G x)) : HP.le (Go.Proofs.Ytoknjpmlloikhaa.star (l.map F)) (Go.Proofs.Ytoknjpmlloikhaa.star (l.map G)) := HP.le.star (forall₂_map l h)
theorem PSub.les (h : LeL L L') : PSub w0 f0 L L' := fun w H => by
  obtain ⟨g, hg, hb⟩ := H.sf
  exact ⟨H.step, g, SF.le h hg, hb⟩
theorem forall₂_refl : ∀ (l : List HP), LeL l l
  | [] => .nil
  | x :: l => .cons (HP.le.refl x) (forall₂_refl l)
theorem PSub.le1 (h : HP.le X Y) : PSub w0 f0 (X :: L) (Y :: L) := PSub.les (.cons h (forall₂_refl L))
theorem PSub.exI (x : α) : PSub w0 f0 (F x :: L) (exH F :: L) := PSub.le1 (HP.le.ex x)
theorem St.exE (H : St w0 f0 (exH F :: L) w) : ∃ x, St w0 f0 (F x :: L) w := by
  obtain ⟨g, ⟨f1, f2, e1, e2, ⟨x, e3⟩, e4⟩, hb⟩ := H.sf
  exact ⟨x, H.step, g, ⟨f1, f2, e1, e2, e3, e4⟩, hb⟩
theorem s_ex (h : ∀ x, sC P n w0 f0 c QC f (F x :: L)) : sC P n w0 f0 c QC f (exH F :: L) := fun w H => by
  obtain ⟨x, H⟩ := H.exE
  exact h x w H
theorem so_ex (h : ∀ x, sO P n w0 f0 ops m lo QC f (F x :: L)) : sO P n w0 f0 ops m lo QC f (exH F :: L) := fun w H => by
  obtain ⟨x, H⟩ := H.exE
  exact h x w H
end
end
end Go.Proofs.Ytoknjpmlloikhaa
