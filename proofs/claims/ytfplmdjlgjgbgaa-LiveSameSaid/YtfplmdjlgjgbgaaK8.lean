/- Ranging over maps keyed by ints: over one that is only read, and over one of the call's own. -/
import Derived.Test.YtfplmdjlgjgbgaaK7
namespace Go.Proofs.Ytfplmdjlgjgbgaa
set_option linter.unusedVariables false
set_option linter.unusedSimpArgs false
open Go Go.RowKit Go.Maps Go.ChangeMaps
open Go.WideElems (Fit rg)

/-- The entries of a map, and what they say. -/
def Froz {P : Program} {e : TypeId} {α : Type} (E : EK P e α) (kt : TypeId) (es : Array MapEntry) (clock n : Nat) (f : Int → Option α) : Prop :=
  Fit P kt (plainElem (H := Unit) P e) es clock ∧ es.size ≤ n ∧ (∀ k, f k ≠ none → wfi k) ∧ (∀ k x, f k = some x → E.good x) ∧
    ∀ k, wfi k → Maps.has (DataW.map ((es.toList.map (rg P kt (plainElem (H := Unit) P e))).foldr DataW.insert [])) (.int .i64 k) = (f k).isSome ∧
      ∀ z, (DataW.map ((es.toList.map (rg P kt (plainElem (H := Unit) P e))).foldr DataW.insert [])).atKey (.int .i64 k) z = ((f k).map E.dat).getD z

theorem IsM.froz {P : Program} {e kt : TypeId} {α : Type} {E : EK P e α} {w : World} {b n : Nat} {f : Int → Option α} (h : IsM E kt w b n f) : ∃ es clock, w.heap[b]? = some (.map es clock) ∧ Froz E kt es clock n f := by
  obtain ⟨D, ⟨es, clock, h1, h2, h3, rfl⟩, r⟩ := h
  exact ⟨es, clock, h1, h2, h3, r⟩
theorem IsM.of_froz {P : Program} {e kt : TypeId} {α : Type} {E : EK P e α} {w : World} {b n : Nat} {f : Int → Option α} {es : Array MapEntry} {clock : Nat} (h1 : w.heap[b]? = some (.map es clock)) (h : Froz E kt es clock n f) : IsM E kt w b n f := by
  obtain ⟨h2, h3, r⟩ := h
  exact ⟨_, ⟨es, clock, h1, h2, h3, rfl⟩, r⟩

/-- A map of the call's own, its entries held fast. -/
def mpz {P : Program} {e : TypeId} {α : Type} (E : EK P e α) (kt : TypeId) (b n : Nat) (f : Int → Option α) (es : Array MapEntry) (clock : Nat) : HP where
  sat w g := (∀ x, g x ↔ x = b) ∧ w.heap[b]? = some (.map es clock) ∧ Froz E kt es clock n f
  loc := fun ⟨h1, h2, h3⟩ hk => ⟨h1, (hk b ((h1 b).2 rfl)).trans h2, h3⟩
  dom := fun ⟨h1, h2, _⟩ x hx => by obtain rfl := (h1 x).1 hx; exact (Array.getElem?_eq_some_iff.1 h2).1

def MAt {P : Program} {e : TypeId} {α : Type} (E : EK P e α) (kt : TypeId) (ok : FP) (w : World) (v : Option Nat) (es : Array MapEntry) (clock n : Nat) (f : Int → Option α) : Prop :=
  (v = none ∧ ∀ k, f k = none) ∨ ∃ b, v = some b ∧ ok b ∧ w.heap[b]? = some (.map es clock) ∧ Froz E kt es clock n f

/-- An iterator over what is held fast. -/
def itr (P : Program) (kt e : TypeId) (v : Option Nat) (r : Nat) (es : Array MapEntry) (clock : Nat) (todo : Int → Bool) (cnt : Nat) : HP where
  sat w g := (∀ x, g x ↔ x = r) ∧ ∃ since seen c0, w.heap[r]? = some (.mapIter v since seen c0) ∧ (v.isSome = true →
    (∀ x ∈ es.toList, x.born < since) ∧ since ≤ c0 ∧ since ≤ clock ∧ (leftOf es seen).size = cnt ∧ ∃ left : Lit → Bool, (∀ k, wfi k → left (.int .i64 k) = todo k) ∧
      (∀ x ∈ es.toList, left (rg P kt (plainElem (H := Unit) P e) x).1 = !seen.contains x.born) ∧ (∀ kl, left kl = true → ∃ x ∈ es.toList, (rg P kt (plainElem (H := Unit) P e) x).1 = kl))
  loc := fun ⟨h1, since, seen, c0, h2, h3⟩ hk => ⟨h1, since, seen, c0, (hk r ((h1 r).2 rfl)).trans h2, h3⟩
  dom := fun ⟨h1, since, seen, c0, h2, h3⟩ x hx => by obtain rfl := (h1 x).1 hx; exact (Array.getElem?_eq_some_iff.1 h2).1

section
variable {P : Program} {n : Nat} {md : Bool} {ops : Array Oper} {rest : List Oper} {f : Fr} {w w0 : World} {Q : Fr → World → Prop} {f0 : FP} {L : List HP}
variable {d : Tmp} {x y z : Operand} {ty t kt e : TypeId} {pos : String} {after : Array Edge} {α : Type} {E : EK P e α} {N : Nat} {F : Int → Option α}

theorem run_range_any (hk : P.underlying kt = some (.int .i64)) (ht : P.underlying t = some (.map kt e)) {b : Nat} {es : Array MapEntry} {clock : Nat} (hb : w.heap[b]? = some (.map es clock)) (hz : Froz E kt es clock N F) :
    ∃ w' g cnt, (Instr.range t (.map (some b))).run P w = .ok (.pointer (some ⟨w.heap.size, 0, none⟩)) w' ∧ (itr P kt e (some b) w.heap.size es clock (fun k => (F k).isSome) cnt).sat w' g ∧ (∀ x, g x ↔ x = w.heap.size) ∧ Step w (fun _ => False) w' ∧ cnt ≤ N := by
  have hown : w.ownsMap P kt (plainElem (H := Unit) P e) b es.size (DataW.map ((es.toList.map (rg P kt (plainElem (H := Unit) P e))).foldr DataW.insert [])) := ⟨es, clock, hb, hz.1, Nat.le_refl _, rfl⟩
  obtain ⟨w', h1, ⟨es', clock', since, seen, c0, q1, q2, q3, q4, q5, q6, q7, q8, q9, q10, q11⟩, h3, h4⟩ := hown.range (int_keyed hk) ht
  have hs := Step.grown h3 (f := fun _ => False) fun b h => by cases h
  have := (hs.keep b hown.lt id).symm.trans q1
  rw [hb] at this
  cases this
  refine ⟨w', fun x => x = w.heap.size, _, h1, ⟨fun _ => Iff.rfl, since, seen, c0, q5, fun _ => ⟨q6, q10, q11, q7, _, fun k hk => (hz.2.2.2.2 k hk).1, q8, q9⟩⟩, fun _ => Iff.rfl, hs, ?_⟩
  rw [← q7]
  exact Nat.le_trans (by unfold leftOf; exact Array.size_filter_le) hz.2.1

theorem o_rangeS {v : Option Nat} (hk : P.underlying kt = some (.int .i64)) (ht : P.underlying t = some (.map kt e)) (H : St w0 f0 L w) (hR : RdM E kt (okOf w0 f0) w0 v N F) (hx : ev f x = .map v)
    (h : ∀ es clock cnt r w', cnt ≤ N → MAt E kt (okOf w0 f0) w0 v es clock N F → St w0 f0 (L ++ [itr P kt e v r es clock (fun k => (F k).isSome) cnt]) w' → wO P ops n false rest Q (up f d (.pointer (some ⟨r, 0, none⟩))) w') (hd : Nat.blt d n = true := by rfl) :
    wO P ops n false (⟨some d, .range t x, ty, pos, after, none⟩ :: rest) Q f w := by
  rcases hR with ⟨rfl, h0⟩ | ⟨b, rfl, hok, hM⟩
  · refine o_val (w' := w.alloc (.mapIter none 0 #[] 0)) (v := .pointer (some ⟨w.heap.size, 0, none⟩)) rfl hd ?_ (h #[] 0 0 w.heap.size _ (Nat.zero_le _) (.inl ⟨rfl, h0⟩) (H.add _ (Step.alloc _ _ _) (g := fun x => x = w.heap.size) ⟨fun _ => Iff.rfl, 0, #[], 0, heap_alloc_new w _, fun h => by cases h⟩ fun b hb => Nat.le_of_eq hb.symm))
    simp [execOp, hx, run_range_nilMap w t kt e ht]
  · obtain ⟨es, clock, hb, hz⟩ := hM.froz
    obtain ⟨w', g, cnt, hrun, hs, hg, hst, hcn⟩ := run_range_any hk ht ((H.ok0 b hok).2.trans hb) hz
    refine o_val (w' := w') (v := .pointer (some ⟨w.heap.size, 0, none⟩)) rfl hd ?_ (h es clock cnt w.heap.size w' hcn (.inr ⟨b, rfl, hok, hb, hz⟩) (H.add _ hst hs fun b hb => Nat.le_of_eq ((hg b).1 hb).symm))
    simp [execOp, hx, hrun]

theorem St.freeze (H : St w0 f0 L w) (i : Nat) {b : Nat} (hi : L[i]? = some (mp E kt b N F)) : ∃ es clock, St w0 f0 (L.set i (mpz E kt b N F es clock)) w := by
  obtain ⟨f1, hA, _, hB⟩ := H.focus i hi
  obtain ⟨es, clock, h1, h2⟩ := hA.2.froz
  exact ⟨es, clock, hB w (mpz E kt b N F es clock) f1 (Step.refl _ _) ⟨hA.1, h1, h2⟩ fun b hb => .inl hb⟩
theorem St.thaw (H : St w0 f0 L w) (i : Nat) {b : Nat} {es : Array MapEntry} {clock : Nat} (hi : L[i]? = some (mpz E kt b N F es clock)) : St w0 f0 (L.set i (mp E kt b N F)) w :=
  H.turn i hi fun _ h => ⟨h.1, IsM.of_froz h.2.1 h.2.2⟩

theorem o_rangeR {b : Nat} {es : Array MapEntry} {clock : Nat} (hk : P.underlying kt = some (.int .i64)) (ht : P.underlying t = some (.map kt e)) (H : St w0 f0 L w) (i : Nat) (hi : L[i]? = some (mpz E kt b N F es clock)) (hx : ev f x = .map (some b))
    (h : ∀ cnt r w', cnt ≤ N → St w0 f0 (L ++ [itr P kt e (some b) r es clock (fun k => (F k).isSome) cnt]) w' → wO P ops n false rest Q (up f d (.pointer (some ⟨r, 0, none⟩))) w') (hd : Nat.blt d n = true := by rfl) :
    wO P ops n false (⟨some d, .range t x, ty, pos, after, none⟩ :: rest) Q f w := by
  obtain ⟨f1, hA, _, _⟩ := H.focus i hi
  obtain ⟨w', g, cnt, hrun, hs, hg, hst, hcn⟩ := run_range_any hk ht hA.2.1 hA.2.2
  refine o_val (w' := w') (v := .pointer (some ⟨w.heap.size, 0, none⟩)) rfl hd ?_ (h cnt w.heap.size w' hcn (H.add _ hst hs fun b hb => Nat.le_of_eq ((hg b).1 hb).symm))
  simp [execOp, hx, hrun]

theorem sameKey_i (a b : Int) : (Lit.int .i64 a).sameKey (.int .i64 b) = (a == b) := by
  by_cases h : a = b
  · subst h; simp [Lit.sameKey]
  · have := Maps.sameKey_ne (lit_ne h)
    rw [this]
    simp [h]

/-- The step over a map that lies where it lies. -/
theorem run_next_any {v : Option Nat} {r : Nat} {es : Array MapEntry} {clock cnt : Nat} {todo : Int → Bool} {g : FP} (hk : P.underlying kt = some (.int .i64)) (hI : (itr P kt e v r es clock todo cnt).sat w g) (hM : MAt E kt (fun _ => True) w v es clock N F) (ty : TypeId) :
    ((∀ k, F k ≠ none → todo k = false) ∧ (Instr.next (.pointer (some ⟨r, 0, none⟩)) false ty).run P w = .ok (.tuple #[.bool false]) w) ∨
    ∃ k x w' cnt', (wfi k ∧ E.good x) ∧ todo k = true ∧ F k = some x ∧ cnt' < cnt ∧ (Instr.next (.pointer (some ⟨r, 0, none⟩)) false ty).run P w = .ok (.tuple #[.bool true, .int .i64 k, E.enc x]) w' ∧
      (itr P kt e v r es clock (fun j => todo j && j != k) cnt').sat w' g ∧ Step w g w' ∧ (Instr.entry (.pointer (some ⟨r, 0, none⟩))).run P w' = .ok (.tuple #[.int .i64 k, E.enc x]) w' := by
  obtain ⟨hg, since, seen, c0, hr, hI⟩ := hI
  rcases hM with ⟨rfl, h0⟩ | ⟨b, rfl, _, hb, hz⟩
  · refine .inl ⟨fun k hk => absurd (h0 k) hk, ?_⟩
    simp only [Instr.next, getObj, Sem.run_bind, Sem.run, hr, Result.andThen]
    rfl
  · obtain ⟨i1, i2, i3, i4, left, i5, i6, i7⟩ := hI rfl
    have hrg : w.ranges P kt (plainElem (H := Unit) P e) b r es.size (DataW.map ((es.toList.map (rg P kt (plainElem (H := Unit) P e))).foldr DataW.insert [])) left cnt :=
      ⟨es, clock, since, seen, c0, hb, hz.1, Nat.le_refl _, rfl, hr, i1, i4, i6, i7, i2, i3⟩
    rcases hrg.next (int_keyed hk) ty with ⟨_, h1, h2⟩ | ⟨key, vv, kl, y, w', cnt', hkey, hlk, hv, hat, hrun, hrg', hlt, hgr, hsz, hen⟩
    · refine .inl ⟨fun k hkk => ?_, h2⟩
      rw [← i5 k (hz.2.2.1 k hkk)]
      exact h1 _
    · obtain ⟨k, rfl, rfl, hkw⟩ := keyOf_int_inv hk hkey
      have hkw := wfi_iff.2 hkw
      obtain ⟨x, hx1, rfl, rfl⟩ := E.inv _ _ hv
      have hF : F k = some x := by
        have h1 := (hz.2.2.2.2 k hkw).2
        cases hFk : F k with
        | none =>
          exfalso
          have a1 := hat (.lit (.bool true))
          have a2 := hat (.lit (.bool false))
          rw [h1, hFk] at a1 a2
          have := a1.trans a2.symm
          cases this
        | some x' =>
          have a1 := hat (.lit (.bool true))
          rw [h1, hFk] at a1
          rw [E.inj _ _ a1]
      have hs : Step w g w' := Step.grown hgr fun b hb => by cases hb; exact (hg _).2 rfl
      have hne : r ≠ b := hrg.ne
      obtain ⟨es', clock', since', seen', c0', q1, q2, q3, q4, q5, q6, q7, q8, q9, q10, q11⟩ := hrg'
      have hbe := (hs.keep b hrg.owns.lt fun h => hne ((hg b).1 h).symm).symm.trans q1
      rw [hb] at hbe
      cases hbe
      refine .inr ⟨k, x, w', cnt', ⟨hkw, hx1⟩, by rw [← i5 k hkw]; exact hlk, hF, hlt, hrun, ⟨hg, since', seen', c0', q5, fun _ => ⟨q6, q10, q11, q7, _, fun j hj => ?_, q8, q9⟩⟩, hs, hen⟩
      show (left (.int .i64 j) && !(Lit.int .i64 j).sameKey (.int .i64 k)) = _
      rw [i5 j hj, sameKey_i]; rfl

theorem o_nextS {v : Option Nat} {r : Nat} {es : Array MapEntry} {clock cnt : Nat} {todo : Int → Bool} (hk : P.underlying kt = some (.int .i64)) (H : St w0 f0 L w) (i : Nat) (hi : L[i]? = some (itr P kt e v r es clock todo cnt)) (hM : MAt E kt (okOf w0 f0) w0 v es clock N F) (hx : ev f x = .pointer (some ⟨r, 0, none⟩))
    (h0 : (∀ k, F k ≠ none → todo k = false) → wO P ops n false rest Q (up f d (.tuple #[.bool false])) w)
    (h1 : ∀ k x w' cnt', wfi k ∧ E.good x → todo k = true → F k = some x → cnt' < cnt → St w0 f0 (L.set i (itr P kt e v r es clock (fun j => todo j && j != k) cnt')) w' → (Instr.entry (.pointer (some ⟨r, 0, none⟩))).run P w' = .ok (.tuple #[.int .i64 k, E.enc x]) w' → wO P ops n false rest Q (up f d (.tuple #[.bool true, .int .i64 k, E.enc x])) w')
    (hd : Nat.blt d n = true := by rfl) : wO P ops n false (⟨some d, .next x false, ty, pos, after, none⟩ :: rest) Q f w := by
  obtain ⟨f1, hA, _, hB⟩ := H.focus i hi
  have hM' : MAt E kt (fun _ => True) w v es clock N F := hM.imp id fun ⟨b, e1, h2, h3, h4⟩ => ⟨b, e1, trivial, (H.ok0 b h2).2.trans h3, h4⟩
  rcases run_next_any hk hA hM' ty with ⟨a1, a2⟩ | ⟨k, x', w', cnt', b1, b2, b3, b4, b5, b6, b7, b8⟩
  · refine o_val (w' := w) (v := .tuple #[.bool false]) rfl hd ?_ (h0 a1)
    simp [execOp, hx, a2]
  · refine o_val (w' := w') (v := .tuple #[.bool true, .int .i64 k, E.enc x']) rfl hd ?_ (h1 k x' w' cnt' b1 b2 b3 b4 (hB w' _ f1 b7 b6 fun b hb => .inl hb) b8)
    simp [execOp, hx, b5]

theorem o_nextR {b r : Nat} {es : Array MapEntry} {clock cnt : Nat} {todo : Int → Bool} (hk : P.underlying kt = some (.int .i64)) (H : St w0 f0 L w) (i j : Nat) (hi : L[i]? = some (itr P kt e (some b) r es clock todo cnt)) (hj : L[j]? = some (mpz E kt b N F es clock)) (hx : ev f x = .pointer (some ⟨r, 0, none⟩))
    (h0 : (∀ k, F k ≠ none → todo k = false) → wO P ops n false rest Q (up f d (.tuple #[.bool false])) w)
    (h1 : ∀ k x w' cnt', wfi k ∧ E.good x → todo k = true → F k = some x → cnt' < cnt → St w0 f0 (L.set i (itr P kt e (some b) r es clock (fun j => todo j && j != k) cnt')) w' → (Instr.entry (.pointer (some ⟨r, 0, none⟩))).run P w' = .ok (.tuple #[.int .i64 k, E.enc x]) w' → wO P ops n false rest Q (up f d (.tuple #[.bool true, .int .i64 k, E.enc x])) w')
    (hd : Nat.blt d n = true := by rfl) : wO P ops n false (⟨some d, .next x false, ty, pos, after, none⟩ :: rest) Q f w := by
  obtain ⟨f1, hA, _, hB⟩ := H.focus i hi
  obtain ⟨f2, hZ, _, _⟩ := H.focus j hj
  have hM' : MAt E kt (fun _ => True) w (some b) es clock N F := .inr ⟨b, rfl, trivial, hZ.2.1, hZ.2.2⟩
  rcases run_next_any hk hA hM' ty with ⟨a1, a2⟩ | ⟨k, x', w', cnt', b1, b2, b3, b4, b5, b6, b7, b8⟩
  · refine o_val (w' := w) (v := .tuple #[.bool false]) rfl hd ?_ (h0 a1)
    simp [execOp, hx, a2]
  · refine o_val (w' := w') (v := .tuple #[.bool true, .int .i64 k, E.enc x']) rfl hd ?_ (h1 k x' w' cnt' b1 b2 b3 b4 (hB w' _ f1 b7 b6 fun b hb => .inl hb) b8)
    simp [execOp, hx, b5]

theorem o_entry {a : Addr} {v : Value} (hx : ev f x = .pointer (some a)) (he : (Instr.entry (.pointer (some a))).run P w = .ok v w) (h : wO P ops n md rest Q (up f d v) w) (hd : Nat.blt d n = true := by rfl) :
    wO P ops n md (⟨some d, .entry x, ty, pos, after, none⟩ :: rest) Q f w := by
  refine o_pure (v := v) rfl hd ?_ h
  simp [execOp, hx, he]
end
end Go.Proofs.Ytfplmdjlgjgbgaa
