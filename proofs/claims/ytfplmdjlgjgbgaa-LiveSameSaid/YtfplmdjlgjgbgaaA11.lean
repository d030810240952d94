/- Literals, conversions of whole numbers, fields of many cells, pieces turned. -/
import Derived.Test.YtfplmdjlgjgbgaaA10
namespace Go.Proofs.Ytfplmdjlgjgbgaa
set_option linter.unusedVariables false
set_option linter.unusedSimpArgs false
open Go Go.RowKit

section
variable {P : Program} {n : Nat} {w0 w1 : World} {f0 f1 : FP} {ops : Array Oper} {m : Bool} {rest : List Oper} {QC : Exit → Fr → World → Prop} {f : Fr} {L L1 L2 : List HP}
variable {d : Tmp} {ty t yt e2 : TypeId} {x y : Operand} {pos : String} {after : Array Edge} {α : Type} [I : Enc α] {sz bytes l c : Nat} {A : Option Addr} {xs : List α} {put : HP → List HP} {a b c' d' : HP}
theorem s_bld {lp : List (Nat × Operand)} (u : α) (hb : P.built t (lp.map fun p => (p.1, ev f p.2)) = some (I.enc u).toArray) (h : sO P n w0 f0 ops m rest QC (up f d (.agg (I.enc u).toArray)) L) (hd : Nat.blt d n = true := by rfl) :
    sO P n w0 f0 ops m (⟨some d, .build t lp.toArray, ty, pos, after, none⟩ :: rest) QC f L := s_build _ rfl hb h hd
theorem Ctx.lit [D : Dp α] {e : TypeId} {A : Option Addr} {l c : Nat} {xs : List α} {put : HP → List HP} (h : Ctx w0 f0 L1 L2 w1 f1) [hp : Pc L2 A (own (I := I) e A l c xs) put] (hd : ∀ x ∈ xs, D.rd (okOf w1 f1) w1 x) : Dp.rd (okOf w1 f1) w1 (⟨A, c, xs⟩ : Sl α) := (h.ownI A hd).h
theorem all_cons {α : Type} {p : α → Prop} {a : α} {l : List α} (h : p a) (h2 : ∀ x ∈ l, p x) : ∀ x ∈ a :: l, p x := fun x hx => by
  rcases List.mem_cons.1 hx with rfl | hx
  · exact h
  · exact h2 x hx
theorem all_nil {α : Type} {p : α → Prop} : ∀ x ∈ ([] : List α), p x := fun _ h => nomatch h

theorem lay_lay {L E vs : List Value} {p o : Nat} (hE : L = L.take p ++ E ++ L.drop (p + E.length)) (hp : p ≤ L.length) (ho : o + vs.length ≤ E.length) : lay L p (lay E o vs) = lay L (p + o) vs := by
  have hl : (lay E o vs).length = E.length := by unfold lay; simp; omega
  have ht : (L.take p).length = p := by simp; omega
  unfold lay
  have h1 : (E.take o ++ vs ++ E.drop (o + vs.length)).length = E.length := by simp; omega
  rw [h1]
  generalize hA : L.take p = A at *
  generalize hB : L.drop (p + E.length) = B at *
  rw [hE]
  have e1 : (A ++ E ++ B).take (p + o) = A ++ E.take o := by
    rw [List.append_assoc, List.take_append, ht]
    rw [List.take_of_length_le (by omega), show p + o - p = o by omega, List.take_append_of_le_length (by omega)]
  have e2 : (A ++ E ++ B).drop (p + o + vs.length) = E.drop (o + vs.length) ++ B := by
    rw [List.append_assoc, List.drop_append, ht, List.drop_of_length_le (by omega), show p + o + vs.length - p = o + vs.length by omega, List.drop_append_of_le_length (by omega)]; simp
  rw [e1, e2]; simp
/-- some cells of an element of a row of the call's own -/
theorem s_stFA {q : Nat} (u : α) {o : Nat} [hT : CA P t q] {j : Nat} (hx : ev f x = pt A (j * sz + o)) [h : Pc L A (own (I := I) e2 A l c xs) put] [hE : Elt P e2 α I sz bytes] (hq : (ev f y).cells.size = q) (hu : lay (I.enc (nth xs j)) o (ev f y).cells.toList = I.enc u) (ho : o + q ≤ sz) (h1 : j < l)
    (hn : sO P n w0 f0 ops false rest QC f (put (own (I := I) e2 A l c (xs.set j u)))) : sO P n w0 f0 ops false (⟨none, .store t x y, ty, pos, after, none⟩ :: rest) QC f L := by
  intro w H
  obtain ⟨i, f1, hi, hA, hB⟩ := h.st H
  obtain ⟨a, rfl, _⟩ := row.adr (show (row A l c e2 I.sz (xs.flatMap I.enc)).sat w f1 from hA) (by omega)
  have hxl := (own.len hA).1
  have hfl : (xs.flatMap I.enc).length = l * I.sz := by rw [flat_len (fun a _ => I.len a), hxl]
  have hjl : j * I.sz + I.sz ≤ l * I.sz := by rw [← Nat.succ_mul]; exact Nat.mul_le_mul_right _ h1
  have hql : (ev f y).cells.toList.length = q := by rw [Array.length_toList, hq]
  have hsz := hE.sz_eq
  have hvo : ∀ v ∈ (ev f y).cells.toList, v.oneCell' = true := fun v hv => I.one u v (by rw [← hu]; unfold lay; simp [hv])
  obtain ⟨w', hrun, hs, hst⟩ := row.put (P := P) (show (row (some a) l c e2 I.sz (xs.flatMap I.enc)).sat w f1 from hA) (j * sz + o) (ev f y).cells.toList (by rw [hfl, hql, ← hsz]; omega) hvo
  have e1 : lay (xs.flatMap I.enc) (j * sz + o) (ev f y).cells.toList = (xs.set j u).flatMap I.enc := by
    rw [← hsz, ← flat_set (fun a _ => I.len a) (by omega) (I.len u), ← hu]
    have hat := flat_drop (f := I.enc) (sz := I.sz) (l := xs) (fun a _ => I.len a) j
    have hjx : j < xs.length := by omega
    refine (lay_lay ?_ (by omega) (by rw [I.len, hql, hsz]; exact ho)).symm
    have hd2 := flat_drop (f := I.enc) (sz := I.sz) (l := xs) (fun a _ => I.len a) (j + 1)
    rw [I.len, show j * I.sz + I.sz = (j + 1) * I.sz by rw [Nat.succ_mul], hd2]
    conv => lhs; rw [← List.take_append_drop (j * I.sz) (xs.flatMap I.enc), hat, List.drop_eq_getElem_cons hjx, List.flatMap_cons, ← nth_get hjx]
    rw [List.append_assoc]
  rw [e1] at hs
  refine o_skp (w' := w') rfl rfl ?_ (hn w' (hB w' _ f1 hst hs fun b hb => .inl hb))
  have hx' : ev f x = .pointer (some (a.add (j * sz + o))) := hx
  have hsz : (sizeOf t).run P w = .ok (ev f y).cells.size w := by rw [hT.h.sz, hq]
  simp [execOp, hx', Instr.storeAt, Instr.sureAddr, storeVar, hsz, hrun]
/-- A whole number turned into another kind. -/
theorem s_conv {src dst : TypeId} {k k' : IntKind} {v : Int} (hs : P.underlying src = some (.int k)) (ht : P.underlying dst = some (.int k')) (hx : ev f x = .int k v) (h : sO P n w0 f0 ops m rest QC (up f d (.int k' (k'.wrap v))) L) (hd : Nat.blt d n = true := by rfl) :
    sO P n w0 f0 ops m (⟨some d, .convert src dst x, ty, pos, after, none⟩ :: rest) QC f L := by
  intro w H
  refine o_pure (v := .int k' (k'.wrap v)) rfl hd ?_ (h w H)
  simp [execOp, convert, hx, run_underlying hs, run_underlying ht, Conv.intToInt, Result.andThen]
theorem s_convE {src dst : TypeId} {k k' : IntKind} {v v' : Int} (hs : P.underlying src = some (.int k)) (ht : P.underlying dst = some (.int k')) (hx : ev f x = .int k v) (he : k'.wrap v = v') (h : sO P n w0 f0 ops m rest QC (up f d (.int k' v')) L) (hd : Nat.blt d n = true := by rfl) :
    sO P n w0 f0 ops m (⟨some d, .convert src dst x, ty, pos, after, none⟩ :: rest) QC f L := s_conv hs ht hx (by rw [he]; exact h) hd
theorem s_ldF2 [hT : C1 P t] {j o1 o2 : Nat} (hx : ev f x = pt A (j * sz + o1 + o2)) [h : Pc L A (own (I := I) e2 A l c xs) put] [hE : Elt P e2 α I sz bytes] (h1 : j < l) {v : Value} (hv : (I.enc (nth xs j))[o1 + o2]? = some v)
    (hn : sO P n w0 f0 ops m rest QC (up f d v) L) (hd : Nat.blt d n = true := by rfl) : sO P n w0 f0 ops m (⟨some d, .load t x, ty, pos, after, none⟩ :: rest) QC f L :=
  s_ldF (o := o1 + o2) (by rw [← Nat.add_assoc]; exact hx) h1 hv hn hd
theorem PSub.swap2 : PSub w0 f0 (a :: b :: L) (b :: a :: L) := fun w H => by
  have := H.pick [1]; exact this
theorem PSub.roll3 : PSub w0 f0 (a :: b :: c' :: L) (b :: c' :: a :: L) := fun w H => by
  have := H.pick [1, 1]; exact this
end
theorem uint_mod (w : Int) (k : Int) (h0 : 0 < k) (h1 : k ≤ 9223372036854775807) : 0 ≤ IntKind.i64.wrap ((IntKind.u64.wrap w).tmod k) ∧ IntKind.i64.wrap ((IntKind.u64.wrap w).tmod k) < k := by
  have h2 : 0 ≤ IntKind.u64.wrap w := by
    simp only [IntKind.wrap, IntKind.bits, IntKind.signed]
    simp
    omega
  have h3 : 0 ≤ (IntKind.u64.wrap w).tmod k := Int.tmod_nonneg _ h2
  have h4 : (IntKind.u64.wrap w).tmod k < k := Int.tmod_lt_of_pos _ h0
  rw [i64_in _ (by omega)]
  exact ⟨h3, h4⟩
end Go.Proofs.Ytfplmdjlgjgbgaa
