/- Maps keyed by ints, as functions into options; the rules for them. -/
import Derived.Test.YtfplmdjlgjgbgaaK6
import Derived.Maps.OwnSet
import Derived.Maps.OwnOps
import Derived.Maps.RangeWalk
namespace Go.Proofs.Ytfplmdjlgjgbgaa
set_option linter.unusedVariables false
set_option linter.unusedSimpArgs false
open Go Go.RowKit Go.Maps

/-- How elements of one type are written and read. -/
structure EK (P : Program) (e : TypeId) (α : Type) where
  enc : α → Value
  dat : α → DataW Unit
  zero : α
  good : α → Prop
  put : ∀ x, good x → plainElem P e (enc x) = some (dat x, [])
  inv : ∀ v z, plainElem (H := Unit) P e v = some z → ∃ x, good x ∧ v = enc x ∧ z = (dat x, [])
  inj : ∀ x y, dat x = dat y → x = y
  gz : good zero

noncomputable def ekInt {P : Program} {e : TypeId} {q : IntKind} (he : P.underlying e = some (.int q)) : EK P e Int where
  enc := .int q
  dat := fun x => .lit (.int q x)
  zero := 0
  good := fun x => (Lit.int q x).wf = true
  put := fun x h => plainElem_int he h
  inv := fun v z h => by
    obtain ⟨a, h1, h2, h3⟩ := plainElem_int_inv he h
    exact ⟨a, h3, h1, h2⟩
  inj := fun x y h => by cases h; rfl
  gz := by cases q <;> decide

theorem plainElem_bool_inv {P : Program} {e : TypeId} (he : P.underlying e = some .bool) {v : Value} {z : DataW Unit × List MemPlace} (h : plainElem P e v = some z) : ∃ a, v = .bool a ∧ z = (.lit (.bool a), []) := by
  unfold plainElem at h
  rw [he] at h
  cases v <;> simp at h
  exact ⟨_, rfl, h.symm⟩

noncomputable def ekBool {P : Program} {e : TypeId} (he : P.underlying e = some .bool) : EK P e Bool where
  enc := .bool
  dat := fun x => .lit (.bool x)
  zero := false
  good := fun _ => True
  put := fun x _ => plainElem_bool he x
  inv := fun v z h => by
    obtain ⟨a, h1, h2⟩ := plainElem_bool_inv he h
    exact ⟨a, trivial, h1, h2⟩
  inj := fun x y h => by cases h; rfl
  gz := trivial

def wfi (k : Int) : Prop := -9223372036854775808 ≤ k ∧ k ≤ 9223372036854775807
theorem wfi_iff {k : Int} : wfi k ↔ (Lit.int .i64 k).wf = true := by
  unfold wfi; simp [Lit.wf, IntKind.min, IntKind.max, IntKind.signed, IntKind.bits]

/-- Block b is a map of at most n entries that holds f. -/
def IsM {P : Program} {e : TypeId} {α : Type} (E : EK P e α) (kt : TypeId) (w : World) (b n : Nat) (f : Int → Option α) : Prop :=
  ∃ D : DataW Unit, w.ownsMap P kt (plainElem P e) b n D ∧ (∀ k, f k ≠ none → wfi k) ∧ (∀ k x, f k = some x → E.good x) ∧
    ∀ k, wfi k → Maps.has D (.int .i64 k) = (f k).isSome ∧ ∀ z, D.atKey (.int .i64 k) z = ((f k).map E.dat).getD z

def upd {α : Type} (f : Int → Option α) (k : Int) (x : Option α) : Int → Option α := fun j => if j = k then x else f j
theorem upd_same {α : Type} (f : Int → Option α) (k : Int) (x : Option α) : upd f k x k = x := by simp [upd]
theorem upd_other {α : Type} (f : Int → Option α) {k j : Int} (h : j ≠ k) (x : Option α) : upd f k x j = f j := by simp [upd, h]
theorem lit_ne {a b : Int} (h : a ≠ b) : (Lit.int .i64 a) ≠ (Lit.int .i64 b) := fun e => h (by injection e)
theorem isKey_i (k : Int) : WideAt.IsKeyLit (.int .i64 k) := trivial

section
variable {P : Program} {e kt : TypeId} {α : Type} {E : EK P e α} {w w' : World} {b n : Nat} {f : Int → Option α}

theorem IsM.loc (h : IsM E kt w b n f) (hb : w'.heap[b]? = w.heap[b]?) : IsM E kt w' b n f := by
  obtain ⟨D, ⟨es, c, h1, h2⟩, r⟩ := h
  exact ⟨D, ⟨es, c, hb.trans h1, h2⟩, r⟩
theorem IsM.lt (h : IsM E kt w b n f) : b < w.heap.size := by obtain ⟨D, h, _⟩ := h; exact h.lt
theorem IsM.mono (h : IsM E kt w b n f) {m : Nat} (hm : n ≤ m) : IsM E kt w b m f := by obtain ⟨D, h, r⟩ := h; exact ⟨D, h.mono hm, r⟩
theorem IsM.made (E : EK P e α) (kt : TypeId) (w : World) : IsM E kt (w.alloc (.map #[] 0)) w.heap.size 0 (fun _ => none) :=
  ⟨.map [], World.ownsMap_made _ _ _ _, fun _ h => absurd rfl h, (fun _ _ h => by cases h), fun _ _ => ⟨by simp [Maps.has], fun _ => by simp [DataW.atKey]⟩⟩

variable {t : TypeId}
theorem IsM.look (hk : P.underlying kt = some (.int .i64)) (ht : P.underlying t = some (.map kt e)) (hz : (zeroValue e).run P w = .ok (E.enc E.zero) w) (h : IsM E kt w b n f) {k : Int} (hw : wfi k) :
    (Instr.lookup t (.map (some b)) (.int .i64 k) false).run P w = .ok (E.enc ((f k).getD E.zero)) w := by
  obtain ⟨D, hown, _, _, hD⟩ := h
  obtain ⟨hh, hat⟩ := hD k hw
  obtain ⟨v, ps, hrun, hv⟩ := hown.lookup (int_keyed hk) ht hz (E.put _ E.gz) (keyOf_int_mk hk (wfi_iff.1 hw))
  obtain ⟨y, hy, rfl, hyd⟩ := E.inv _ _ hv
  have e1 := congrArg Prod.fst hyd
  rw [hat] at e1
  have : y = (f k).getD E.zero := by
    cases hf : f k <;> rw [hf] at e1 <;> exact (E.inj _ _ e1).symm
  rw [← this]; exact hrun
theorem IsM.look_ok (hk : P.underlying kt = some (.int .i64)) (ht : P.underlying t = some (.map kt e)) (hz : (zeroValue e).run P w = .ok (E.enc E.zero) w) (h : IsM E kt w b n f) {k : Int} (hw : wfi k) :
    (Instr.lookup t (.map (some b)) (.int .i64 k) true).run P w = .ok (.tuple #[E.enc ((f k).getD E.zero), .bool (f k).isSome]) w := by
  obtain ⟨D, hown, _, _, hD⟩ := h
  obtain ⟨hh, hat⟩ := hD k hw
  obtain ⟨v, ps, hrun, hv⟩ := hown.look_ok (int_keyed hk) ht hz (E.put _ E.gz) (keyOf_int_mk hk (wfi_iff.1 hw))
  obtain ⟨y, hy, rfl, hyd⟩ := E.inv _ _ hv
  have e1 := congrArg Prod.fst hyd
  rw [hat] at e1
  have : y = (f k).getD E.zero := by
    cases hf : f k <;> rw [hf] at e1 <;> exact (E.inj _ _ e1).symm
  rw [← this, ← hh]; exact hrun
theorem IsM.put (hk : P.underlying kt = some (.int .i64)) (ht : P.underlying t = some (.map kt e)) (h : IsM E kt w b n f) {k : Int} (hw : wfi k) {y : α} (hy : E.good y) (hn : n < maxLen) :
    ∃ w', (Instr.mapUpdate t (.map (some b)) (.int .i64 k) (E.enc y)).run P w = .ok () w' ∧ IsM E kt w' b (n + 1) (upd f k (some y)) ∧ w.grownBy w' (some b) := by
  obtain ⟨D, hown, hf1, hf2, hD⟩ := h
  obtain ⟨w', hrun, r1, r2⟩ := hown.update (int_keyed hk) ht hn (keyOf_int_mk hk (wfi_iff.1 hw)) (E.put y hy)
  refine ⟨w', hrun, ⟨_, r1, ?_, ?_, ?_⟩, r2⟩
  · intro j hj
    by_cases e1 : j = k
    · subst e1; exact hw
    · rw [upd_other f e1] at hj; exact hf1 j hj
  · intro j x hj
    by_cases e1 : j = k
    · subst e1; rw [upd_same] at hj; cases hj; exact hy
    · rw [upd_other f e1] at hj; exact hf2 j x hj
  · intro j hj
    by_cases e1 : j = k
    · subst e1
      rw [upd_same]
      exact ⟨by rw [has_put_same hown.isMap (isKey_i _)]; rfl, fun z => by rw [atKey_put_same hown.isMap (isKey_i _)]; rfl⟩
    · rw [upd_other f e1]
      obtain ⟨hh, hat⟩ := hD j hj
      exact ⟨by rw [has_put_other (lit_ne e1)]; exact hh, fun z => by rw [atKey_put_other (lit_ne e1)]; exact hat z⟩
theorem IsM.del (hk : P.underlying kt = some (.int .i64)) (ht : P.underlying t = some (.map kt e)) (h : IsM E kt w b n f) {k : Int} (hw : wfi k) (ty : TypeId) :
    ∃ w', (Builtin.delete_ #[t, kt] ty #[.map (some b), .int .i64 k]).run P w = .ok (.tuple #[]) w' ∧ IsM E kt w' b n (upd f k none) ∧ w.grownBy w' (some b) := by
  obtain ⟨D, hown, hf1, hf2, hD⟩ := h
  obtain ⟨w', hrun, r1, r2⟩ := hown.drop (int_keyed hk) ht (keyOf_int_mk hk (wfi_iff.1 hw)) ty
  refine ⟨w', hrun, ⟨_, r1, ?_, ?_, ?_⟩, r2.grown⟩
  · intro j hj
    by_cases e1 : j = k
    · subst e1; exact hw
    · rw [upd_other f e1] at hj; exact hf1 j hj
  · intro j x hj
    by_cases e1 : j = k
    · subst e1; rw [upd_same] at hj; cases hj
    · rw [upd_other f e1] at hj; exact hf2 j x hj
  · intro j hj
    by_cases e1 : j = k
    · subst e1
      rw [upd_same]
      exact ⟨by rw [has_del_same]; rfl, fun z => by rw [atKey_del_same]; rfl⟩
    · rw [upd_other f e1]
      obtain ⟨hh, hat⟩ := hD j hj
      exact ⟨by rw [has_del_other (lit_ne e1)]; exact hh, fun z => by rw [atKey_del_other (lit_ne e1)]; exact hat z⟩
end

/-- A map of the call's own. -/
def mp {P : Program} {e : TypeId} {α : Type} (E : EK P e α) (kt : TypeId) (b n : Nat) (f : Int → Option α) : HP where
  sat w g := (∀ x, g x ↔ x = b) ∧ IsM E kt w b n f
  loc := fun ⟨h1, h2⟩ hk => ⟨h1, h2.loc (hk b ((h1 b).2 rfl))⟩
  dom := fun ⟨h1, h2⟩ x hx => by obtain rfl := (h1 x).1 hx; exact h2.lt

/-- A map that is only read; nil, too. -/
def RdM {P : Program} {e : TypeId} {α : Type} (E : EK P e α) (kt : TypeId) (ok : FP) (w : World) (v : Option Nat) (n : Nat) (f : Int → Option α) : Prop :=
  (v = none ∧ ∀ k, f k = none) ∨ ∃ b, v = some b ∧ ok b ∧ IsM E kt w b n f
theorem RdM.loc {P : Program} {e kt : TypeId} {α : Type} {E : EK P e α} {ok ok' : FP} {w w' : World} {v : Option Nat} {n : Nat} {f : Int → Option α} (h : RdM E kt ok w v n f) (hk : ∀ b, ok b → ok' b ∧ w'.heap[b]? = w.heap[b]?) : RdM E kt ok' w' v n f :=
  h.imp id fun ⟨b, e, h1, h2⟩ => ⟨b, e, (hk b h1).1, h2.loc (hk b h1).2⟩

section
variable {P : Program} {n : Nat} {md : Bool} {ops : Array Oper} {rest : List Oper} {f : Fr} {w w0 : World} {Q : Fr → World → Prop} {f0 : FP} {L : List HP}
variable {d : Tmp} {x y z : Operand} {ty t kt e : TypeId} {pos : String} {after : Array Edge} {α : Type} {E : EK P e α} {N : Nat} {F : Int → Option α}

theorem o_mkmap (E : EK P e α) (kt : TypeId) (H : St w0 f0 L w) (h : ∀ b w', St w0 f0 (L ++ [mp E kt b 0 fun _ => none]) w' → wO P ops n false rest Q (up f d (.map (some b))) w') (hd : Nat.blt d n = true := by rfl) :
    wO P ops n false (⟨some d, .makeMap t none, ty, pos, after, none⟩ :: rest) Q f w := by
  refine o_val (w' := w.alloc (.map #[] 0)) (v := .map (some w.heap.size)) rfl hd ?_ (h w.heap.size _ (H.add _ (Step.alloc _ _ _) (g := fun x => x = w.heap.size) ⟨fun _ => Iff.rfl, IsM.made E kt w⟩ fun b hb => Nat.le_of_eq hb.symm))
  have := run_makeMap (P := P) t w
  simp [execOp, this]

theorem o_look {b : Nat} {k : Int} (hk : P.underlying kt = some (.int .i64)) (ht : P.underlying t = some (.map kt e)) (hz : ∀ w, (zeroValue e).run P w = .ok (E.enc E.zero) w) (H : St w0 f0 L w) (i : Nat) (hi : L[i]? = some (mp E kt b N F))
    (hx : ev f x = .map (some b)) (hy : ev f y = .int .i64 k) (hw : wfi k) {rv : α} (hv : (F k).getD E.zero = rv) (h : wO P ops n md rest Q (up f d (E.enc rv)) w) (hd : Nat.blt d n = true := by rfl) : wO P ops n md (⟨some d, .lookup t x y false, ty, pos, after, none⟩ :: rest) Q f w := by
  subst hv
  obtain ⟨f1, hA, _, _⟩ := H.focus i hi
  refine o_pure (v := E.enc ((F k).getD E.zero)) rfl hd ?_ h
  simp [execOp, hx, hy, hA.2.look hk ht (hz w) hw]
theorem o_look_ok {b : Nat} {k : Int} (hk : P.underlying kt = some (.int .i64)) (ht : P.underlying t = some (.map kt e)) (hz : ∀ w, (zeroValue e).run P w = .ok (E.enc E.zero) w) (H : St w0 f0 L w) (i : Nat) (hi : L[i]? = some (mp E kt b N F))
    (hx : ev f x = .map (some b)) (hy : ev f y = .int .i64 k) (hw : wfi k) {rv : α} {rb : Bool} (hv : (F k).getD E.zero = rv) (hb : (F k).isSome = rb) (h : wO P ops n md rest Q (up f d (.tuple #[E.enc rv, .bool rb])) w) (hd : Nat.blt d n = true := by rfl) : wO P ops n md (⟨some d, .lookup t x y true, ty, pos, after, none⟩ :: rest) Q f w := by
  subst hv
  subst hb
  obtain ⟨f1, hA, _, _⟩ := H.focus i hi
  refine o_pure (v := .tuple #[E.enc ((F k).getD E.zero), .bool (F k).isSome]) rfl hd ?_ h
  simp [execOp, hx, hy, hA.2.look_ok hk ht (hz w) hw]
theorem o_lookS {v : Option Nat} {k : Int} (hk : P.underlying kt = some (.int .i64)) (ht : P.underlying t = some (.map kt e)) (hz : ∀ w, (zeroValue e).run P w = .ok (E.enc E.zero) w) (H : St w0 f0 L w) (hR : RdM E kt (okOf w0 f0) w0 v N F)
    (hx : ev f x = .map v) (hy : ev f y = .int .i64 k) (hw : wfi k) {rv : α} (hv : (F k).getD E.zero = rv) (h : wO P ops n md rest Q (up f d (E.enc rv)) w) (hd : Nat.blt d n = true := by rfl) : wO P ops n md (⟨some d, .lookup t x y false, ty, pos, after, none⟩ :: rest) Q f w := by
  subst hv
  refine o_pure (v := E.enc ((F k).getD E.zero)) rfl hd ?_ h
  rcases hR.loc H.ok0 with ⟨rfl, h0⟩ | ⟨b, rfl, _, hM⟩
  · have := Maps.look_nil (P := P) (w := w) false (int_keyed hk) ht (hz w) (keyOf_int_mk hk (wfi_iff.1 hw))
    rw [h0]
    simp [execOp, hx, hy, this]
  · simp [execOp, hx, hy, hM.look hk ht (hz w) hw]
theorem o_lookS_ok {v : Option Nat} {k : Int} (hk : P.underlying kt = some (.int .i64)) (ht : P.underlying t = some (.map kt e)) (hz : ∀ w, (zeroValue e).run P w = .ok (E.enc E.zero) w) (H : St w0 f0 L w) (hR : RdM E kt (okOf w0 f0) w0 v N F)
    (hx : ev f x = .map v) (hy : ev f y = .int .i64 k) (hw : wfi k) {rv : α} {rb : Bool} (hv : (F k).getD E.zero = rv) (hb : (F k).isSome = rb) (h : wO P ops n md rest Q (up f d (.tuple #[E.enc rv, .bool rb])) w) (hd : Nat.blt d n = true := by rfl) : wO P ops n md (⟨some d, .lookup t x y true, ty, pos, after, none⟩ :: rest) Q f w := by
  subst hv
  subst hb
  refine o_pure (v := .tuple #[E.enc ((F k).getD E.zero), .bool (F k).isSome]) rfl hd ?_ h
  rcases hR.loc H.ok0 with ⟨rfl, h0⟩ | ⟨b, rfl, _, hM⟩
  · have := Maps.look_nil (P := P) (w := w) true (int_keyed hk) ht (hz w) (keyOf_int_mk hk (wfi_iff.1 hw))
    rw [h0]
    simp [execOp, hx, hy, this]
  · simp [execOp, hx, hy, hM.look_ok hk ht (hz w) hw]

theorem o_put {b : Nat} {k : Int} {yv : α} (hk : P.underlying kt = some (.int .i64)) (ht : P.underlying t = some (.map kt e)) (H : St w0 f0 L w) (i : Nat) (hi : L[i]? = some (mp E kt b N F))
    (hx : ev f x = .map (some b)) (hy : ev f y = .int .i64 k) (hv : ev f z = E.enc yv) (hw : wfi k) (hg : E.good yv) (hn : N < 1000000000) (h : ∀ w', St w0 f0 (L.set i (mp E kt b (N + 1) (upd F k (some yv)))) w' → wO P ops n false rest Q f w') :
    wO P ops n false (⟨none, .mapUpdate t x y z, ty, pos, after, none⟩ :: rest) Q f w := by
  obtain ⟨f1, hA, _, hB⟩ := H.focus i hi
  obtain ⟨w', hrun, r1, r2⟩ := hA.2.put hk ht hw hg (by simp only [maxLen]; omega)
  refine o_skp (w' := w') rfl rfl ?_ (h w' (hB w' _ f1 (Step.grown r2 fun b' hb' => by cases hb'; exact (hA.1 _).2 rfl) ⟨hA.1, r1⟩ fun b hb => .inl hb))
  simp [execOp, hx, hy, hv, hrun]
theorem o_ins {b : Nat} {k : Int} {yv : α} (hk : P.underlying kt = some (.int .i64)) (ht : P.underlying t = some (.map kt e)) (H : St w0 f0 L w) (i : Nat) (hi : L[i]? = some (mp E kt b N F))
    (hx : ev f x = .map (some b)) (hy : ev f y = .int .i64 k) (hv : ev f z = E.enc yv) (hw : wfi k) (hg : E.good yv) (hn : N < 1000000000) (h : ∀ w', St w0 f0 (L.set i (mp E kt b (N + 1) (upd F k (some yv)))) w' → wO P ops n false rest Q f w') :
    wO P ops n false (⟨none, .insert t x y z, ty, pos, after, none⟩ :: rest) Q f w := by
  obtain ⟨f1, hA, _, hB⟩ := H.focus i hi
  obtain ⟨w', hrun, r1, r2⟩ := hA.2.put hk ht hw hg (by simp only [maxLen]; omega)
  refine o_skp (w' := w') rfl rfl ?_ (h w' (hB w' _ f1 (Step.grown r2 fun b' hb' => by cases hb'; exact (hA.1 _).2 rfl) ⟨hA.1, r1⟩ fun b hb => .inl hb))
  simp [execOp, hx, hy, hv, hrun]
theorem o_del {b : Nat} {k : Int} (hk : P.underlying kt = some (.int .i64)) (ht : P.underlying t = some (.map kt e)) (H : St w0 f0 L w) (i : Nat) (hi : L[i]? = some (mp E kt b N F))
    (hx : ev f x = .map (some b)) (hy : ev f y = .int .i64 k) (hw : wfi k) (h : ∀ w', St w0 f0 (L.set i (mp E kt b N (upd F k none))) w' → wO P ops n false rest Q (up f d (.tuple #[])) w') (hd : Nat.blt d n = true := by rfl) :
    wO P ops n false (⟨some d, .call { callee := .builtin .delete, args := #[x, y], argTypes := #[t, kt] }, ty, pos, after, none⟩ :: rest) Q f w := by
  obtain ⟨f1, hA, _, hB⟩ := H.focus i hi
  obtain ⟨w', hrun, r1, r2⟩ := hA.2.del hk ht hw ty
  refine o_val (w' := w') (v := .tuple #[]) rfl hd ?_ (h w' (hB w' _ f1 (Step.grown r2 fun b' hb' => by cases hb'; exact (hA.1 _).2 rfl) ⟨hA.1, r1⟩ fun b hb => .inl hb))
  simp [execOp, resolve, invoke, builtin, hx, hy, hrun]
end
end Go.Proofs.Ytfplmdjlgjgbgaa
