/- Maps over typed keys; bools compared; other cells. -/
import Derived.Test.YtfplmdjlgjgbgaaA3
namespace Go.Proofs.Ytfplmdjlgjgbgaa
set_option linter.unusedVariables false
set_option linter.unusedSimpArgs false
open Go Go.RowKit

structure Str where
  v : ByteArray
structure Iof (k : IntKind) where
  v : Int
structure Ar1 (α : Type) where
  a : α
structure Ar2 (α : Type) where
  a : α
  b : α
structure Ar3 (α : Type) where
  a : α
  b : α
  c : α
structure Ar4 (α : Type) where
  a : α
  b : α
  c : α
  d : α
instance : Enc Str := ⟨fun s => [.string s.v], 1, ⟨⟨#[]⟩⟩, fun _ => rfl, fun _ u h => by simp at h; subst h; rfl, by decide⟩
instance {k : IntKind} : Enc (Iof k) := ⟨fun s => [.int k s.v], 1, ⟨0⟩, fun _ => rfl, fun _ u h => by simp at h; subst h; rfl, by decide⟩
instance {α : Type} [I : Enc α] : Enc (Ar2 α) := ⟨fun s => I.enc s.a ++ I.enc s.b, I.sz + I.sz, ⟨I.dflt, I.dflt⟩, fun _ => by simp [I.len], fun x u h => by
  rcases List.mem_append.1 h with h | h
  · exact I.one _ _ h
  · exact I.one _ _ h, by have := I.pos; omega⟩
instance : Dp Str := ⟨fun _ _ _ => True, fun h _ => h, fun _ _ => trivial⟩
instance : Dp Mr := ⟨fun _ _ _ => True, fun h _ => h, fun _ _ => trivial⟩
instance : Dp Pr := ⟨fun _ _ _ => True, fun h _ => h, fun _ _ => trivial⟩
instance {k : IntKind} : Dp (Iof k) := ⟨fun _ _ x => (Lit.int k x.v).wf = true, fun h _ => h, fun _ _ => by cases k <;> decide⟩
instance {α : Type} [I : Enc α] [D : Dp α] : Dp (Ar2 α) := ⟨fun ok w x => D.rd ok w x.a ∧ D.rd ok w x.b, fun h hk => ⟨D.loc h.1 hk, D.loc h.2 hk⟩, fun ok w => ⟨D.dflt ok w, D.dflt ok w⟩⟩
instance {α : Type} [I : Enc α] [D : Dp α] {ok : FP} {w : World} {x : Ar2 α} [h : RdD ok w x] : RdD ok w x.a := ⟨h.h.1⟩
instance {α : Type} [I : Enc α] [D : Dp α] {ok : FP} {w : World} {x : Ar2 α} [h : RdD ok w x] : RdD ok w x.b := ⟨h.h.2⟩

class BoT (P : Program) (t : TypeId) : Prop where
  u : P.underlying t = some .bool
class MpT (P : Program) (t : TypeId) (kt e : outParam TypeId) : Prop where
  u : P.underlying t = some (.map kt e)
  k : P.underlying kt = some (.int .i64)
class Ekc (P : Program) (e : TypeId) (α : outParam Type) (E : outParam (EK P e α)) : Prop where
  z : ∀ w, (zeroValue e).run P w = .ok (E.enc E.zero) w
  c : ∀ x, (E.enc x).cells = #[E.enc x]

class PcM (L : List HP) (b : Nat) (X : outParam HP) (put : outParam (HP → List HP)) : Prop where
  at_ : ∃ i, L[i]? = some X ∧ ∀ Y, put Y = L.set i Y
class PcI (L : List HP) (r : Nat) (X : outParam HP) (put : outParam (HP → List HP)) (R : outParam (List HP)) : Prop where
  at_ : ∃ i, L[i]? = some X ∧ R = L.eraseIdx i ∧ ∀ Y, put Y = L.set i Y
section
variable {P : Program} {e kt : TypeId} {α : Type} {E : EK P e α} {b N r : Nat} {F : Int → Option α} {L L1 R : List HP} {X B : HP} {put : HP → List HP} {es : Array MapEntry} {clock cnt : Nat} {v : Option Nat} {todo : Int → Bool}
instance (priority := high) pcm_here : PcM (mp E kt b N F :: L) b (mp E kt b N F) (fun Y => Y :: L) := ⟨0, rfl, fun _ => rfl⟩
instance (priority := high) pcm_hereZ : PcM (mpz E kt b N F es clock :: L) b (mpz E kt b N F es clock) (fun Y => Y :: L) := ⟨0, rfl, fun _ => rfl⟩
instance pcm_next [h : PcM L b X put] : PcM (B :: L) b X (fun Y => B :: put Y) := by
  obtain ⟨i, h1, h2⟩ := h.at_; exact ⟨i + 1, h1, fun Y => by rw [h2]; rfl⟩
instance pcm_nil [h : PcM L b X put] : PcM ([] ++ L) b X put := h
instance pcm_cons [h : PcM (B :: (L1 ++ L)) b X put] : PcM ((B :: L1) ++ L) b X put := h
instance pci_nil [h : PcI L r X put R] : PcI ([] ++ L) r X put R := h
instance pci_cons [h : PcI (B :: (L1 ++ L)) r X put R] : PcI ((B :: L1) ++ L) r X put R := h
instance pcm_app [h : PcM L b X put] : PcM (L1 ++ L) b X (fun Y => L1 ++ put Y) := by
  obtain ⟨i, h1, h2⟩ := h.at_
  refine ⟨L1.length + i, by rw [List.getElem?_append_right (by omega), Nat.add_sub_cancel_left]; exact h1, fun Y => ?_⟩
  rw [h2, List.set_append_right _ _ (by omega), Nat.add_sub_cancel_left]
instance (priority := high) pci_here : PcI (itr P kt e v r es clock todo cnt :: L) r (itr P kt e v r es clock todo cnt) (fun Y => Y :: L) L := ⟨0, rfl, rfl, fun _ => rfl⟩
instance pci_next [h : PcI L r X put R] : PcI (B :: L) r X (fun Y => B :: put Y) (B :: R) := by
  obtain ⟨i, h1, h2, h3⟩ := h.at_; exact ⟨i + 1, h1, by rw [h2]; rfl, fun Y => by rw [h3]; rfl⟩
end
/-- A map that is only read. -/
class RdMp {P : Program} {e : TypeId} {α : Type} (E : EK P e α) (kt : TypeId) (ok : FP) (w : World) (v : Option Nat) (N : outParam Nat) (F : outParam (Int → Option α)) : Prop where
  h : RdM E kt ok w v N F

section
variable {P : Program} {n : Nat} {w0 w : World} {f0 : FP} {ops : Array Oper} {m : Bool} {rest : List Oper} {QC : Exit → Fr → World → Prop} {f : Fr} {L L1 L2 R : List HP} {x y z : Operand}
variable {d : Tmp} {ty t yt e kt : TypeId} {pos : String} {after : Array Edge} {α : Type} {E : EK P e α} {N : Nat} {F : Int → Option α} {put : HP → List HP} {b : Nat} {k : Int}

theorem s_beq [h : BoT P t] {a b : Bool} (hx : ev f x = .bool a) (hy : ev f y = .bool b) (hn : sO P n w0 f0 ops m rest QC (up f d (.bool (a == b))) L) (hd : Nat.blt d n = true := by rfl) : sO P n w0 f0 ops m (⟨some d, .binOp .eql t x y yt, ty, pos, after, none⟩ :: rest) QC f L := fun w H => o_beq h.u hx hy (hn w H) hd
theorem s_bne [h : BoT P t] {a b : Bool} (hx : ev f x = .bool a) (hy : ev f y = .bool b) (hn : sO P n w0 f0 ops m rest QC (up f d (.bool (!(a == b)))) L) (hd : Nat.blt d n = true := by rfl) : sO P n w0 f0 ops m (⟨some d, .binOp .neq t x y yt, ty, pos, after, none⟩ :: rest) QC f L := fun w H => o_bne h.u hx hy (hn w H) hd

theorem s_mkmap (E : EK P e α) [h : MpT P t kt e] (hn : ∀ b, sO P n w0 f0 ops false rest QC (up f d (.map (some b))) (mp E kt b 0 (fun _ => none) :: L)) (hd : Nat.blt d n = true := by rfl) : sO P n w0 f0 ops false (⟨some d, .makeMap t none, ty, pos, after, none⟩ :: rest) QC f L :=
  fun w H => o_mkmap E kt H (fun b w' H' => hn b w' H'.head) hd
theorem s_mkmapB [h : MpT P t kt e] {E : EK P e Bool} [Ekc P e Bool E] (hn : ∀ b, sO P n w0 f0 ops false rest QC (up f d (.map (some b))) (mp E kt b 0 (fun _ => none) :: L)) (hd : Nat.blt d n = true := by rfl) : sO P n w0 f0 ops false (⟨some d, .makeMap t none, ty, pos, after, none⟩ :: rest) QC f L := s_mkmap E hn hd
theorem s_mkmapI [h : MpT P t kt e] {E : EK P e Int} [Ekc P e Int E] (hn : ∀ b, sO P n w0 f0 ops false rest QC (up f d (.map (some b))) (mp E kt b 0 (fun _ => none) :: L)) (hd : Nat.blt d n = true := by rfl) : sO P n w0 f0 ops false (⟨some d, .makeMap t none, ty, pos, after, none⟩ :: rest) QC f L := s_mkmap E hn hd
theorem s_look [hm : MpT P t kt e] [he : Ekc P e α E] (hx : ev f x = .map (some b)) (hy : ev f y = .int .i64 k) [h : PcM L b (mp E kt b N F) put] (hw : wfi k) (hn : sO P n w0 f0 ops m rest QC (up f d (E.enc ((F k).getD E.zero))) L) (hd : Nat.blt d n = true := by rfl) : sO P n w0 f0 ops m (⟨some d, .lookup t x y false, ty, pos, after, none⟩ :: rest) QC f L := by
  intro w H
  obtain ⟨i, hi, _⟩ := h.at_
  exact o_look hm.k hm.u he.z H i hi hx hy hw rfl (hn w H) hd
theorem s_look_ok [hm : MpT P t kt e] [he : Ekc P e α E] (hx : ev f x = .map (some b)) (hy : ev f y = .int .i64 k) [h : PcM L b (mp E kt b N F) put] (hw : wfi k) (hn : sO P n w0 f0 ops m rest QC (up f d (.tuple #[E.enc ((F k).getD E.zero), .bool (F k).isSome])) L) (hd : Nat.blt d n = true := by rfl) : sO P n w0 f0 ops m (⟨some d, .lookup t x y true, ty, pos, after, none⟩ :: rest) QC f L := by
  intro w H
  obtain ⟨i, hi, _⟩ := h.at_
  exact o_look_ok hm.k hm.u he.z H i hi hx hy hw rfl rfl (hn w H) hd
theorem s_lookS [hm : MpT P t kt e] [he : Ekc P e α E] {v : Option Nat} (hx : ev f x = .map v) (hy : ev f y = .int .i64 k) [h : RdMp E kt (okOf w0 f0) w0 v N F] (hw : wfi k) (hn : sO P n w0 f0 ops m rest QC (up f d (E.enc ((F k).getD E.zero))) L) (hd : Nat.blt d n = true := by rfl) : sO P n w0 f0 ops m (⟨some d, .lookup t x y false, ty, pos, after, none⟩ :: rest) QC f L :=
  fun w H => o_lookS hm.k hm.u he.z H h.h hx hy hw rfl (hn w H) hd
theorem s_lookS_ok [hm : MpT P t kt e] [he : Ekc P e α E] {v : Option Nat} (hx : ev f x = .map v) (hy : ev f y = .int .i64 k) [h : RdMp E kt (okOf w0 f0) w0 v N F] (hw : wfi k) (hn : sO P n w0 f0 ops m rest QC (up f d (.tuple #[E.enc ((F k).getD E.zero), .bool (F k).isSome])) L) (hd : Nat.blt d n = true := by rfl) : sO P n w0 f0 ops m (⟨some d, .lookup t x y true, ty, pos, after, none⟩ :: rest) QC f L :=
  fun w H => o_lookS_ok hm.k hm.u he.z H h.h hx hy hw rfl rfl (hn w H) hd
theorem s_put [hm : MpT P t kt e] {yv : α} (hx : ev f x = .map (some b)) (hy : ev f y = .int .i64 k) [h : PcM L b (mp E kt b N F) put] (hv : ev f z = E.enc yv) (hw : wfi k) (hg : E.good yv) (hN : N < 1000000000) (hn : sO P n w0 f0 ops false rest QC f (put (mp E kt b (N + 1) (upd F k (some yv))))) : sO P n w0 f0 ops false (⟨none, .mapUpdate t x y z, ty, pos, after, none⟩ :: rest) QC f L := by
  intro w H
  obtain ⟨i, hi, h2⟩ := h.at_
  refine o_put hm.k hm.u H i hi hx hy hv hw hg hN fun w' H' => hn w' ?_
  rw [h2]; exact H'
theorem s_putI [hm : MpT P t kt e] {yv : α} (hx : ev f x = .map (some b)) (hy : ev f y = .int .i64 k) [h : PcM L b (mp E kt b N F) put] (hv : ev f z = E.enc yv) (hw : wfi k) (hg : E.good yv) (hN : N < 1000000000) (hn : sO P n w0 f0 ops false rest QC f (put (mp E kt b (N + 1) (upd F k (some yv))))) : sO P n w0 f0 ops false (⟨none, .insert t x y z, ty, pos, after, none⟩ :: rest) QC f L := by
  intro w H
  obtain ⟨i, hi, h2⟩ := h.at_
  refine o_ins hm.k hm.u H i hi hx hy hv hw hg hN fun w' H' => hn w' ?_
  rw [h2]; exact H'
theorem s_del [hm : MpT P t kt e] (hx : ev f x = .map (some b)) (hy : ev f y = .int .i64 k) [h : PcM L b (mp E kt b N F) put] (hw : wfi k) (hn : sO P n w0 f0 ops false rest QC (up f d (.tuple #[])) (put (mp E kt b N (upd F k none)))) (hd : Nat.blt d n = true := by rfl) : sO P n w0 f0 ops false (⟨some d, .call { callee := .builtin .delete, args := #[x, y], argTypes := #[t, kt] }, ty, pos, after, none⟩ :: rest) QC f L := by
  intro w H
  obtain ⟨i, hi, h2⟩ := h.at_
  refine o_del hm.k hm.u H i hi hx hy hw (fun w' H' => hn w' ?_) hd
  rw [h2]; exact H'

/-! ranges over maps -/
def EntOk (P : Program) (v : Option Nat) (r : Nat) (es : Array MapEntry) (clock : Nat) (tup : Value) (o : Obj) : Prop :=
  ∀ w, w.heap[r]? = some o → (∀ b, v = some b → w.heap[b]? = some (.map es clock)) → (Instr.entry (.pointer (some ⟨r, 0, none⟩))).run P w = .ok tup w
/-- An iterator behind a step. -/
def itrE (P : Program) (kt e : TypeId) (v : Option Nat) (r : Nat) (es : Array MapEntry) (clock : Nat) (todo : Int → Bool) (cnt : Nat) (tup : Value) : HP where
  sat w g := (itr P kt e v r es clock todo cnt).sat w g ∧ ∃ o, w.heap[r]? = some o ∧ EntOk P v r es clock tup o
  loc := fun {w w' g} ⟨h1, o, h2, h3⟩ hk => ⟨(itr P kt e v r es clock todo cnt).loc h1 hk, o, (hk r ((h1.1 r).2 rfl)).trans h2, h3⟩
  dom := fun {w g} ⟨h1, _⟩ => (itr P kt e v r es clock todo cnt).dom h1
theorem itr.ent {v : Option Nat} {r : Nat} {es : Array MapEntry} {clock cnt : Nat} {todo : Int → Bool} {g : FP} {tup : Value} (h : (itr P kt e v r es clock todo cnt).sat w g) (hb : ∀ b, v = some b → w.heap[b]? = some (.map es clock))
    (hr : (Instr.entry (.pointer (some ⟨r, 0, none⟩))).run P w = .ok tup w) : (itrE P kt e v r es clock todo cnt tup).sat w g := by
  refine ⟨h, ?_⟩
  obtain ⟨_, since, seen, c0, h1, _⟩ := h
  refine ⟨_, h1, fun w' h1' hb' => ?_⟩
  cases v with
  | none =>
    simp [Instr.entry, getObj, Sem.run, h1] at hr
  | some b =>
    have h2 := hb b rfl
    have h2' := hb' b rfl
    simp only [Instr.entry, getObj, Sem.run_bind, Sem.run, h1, Result.andThen] at hr
    simp only [Instr.entry, getObj, Sem.run_bind, Sem.run, h1', Result.andThen]
    cases hs : seen.back? with
    | none => simp [hs] at hr
    | some stamp =>
      simp only [hs, Sem.run_bind, Sem.run, h2, Result.andThen] at hr
      simp only [Sem.run_bind, Sem.run, h2', Result.andThen]
      by_cases hc : (clock != c0) = true
      · simp [hc] at hr
      · simp only [hc] at hr ⊢
        cases he : es.find? (·.born == stamp) with
        | none => simp [he] at hr
        | some x =>
          simp [he] at hr ⊢
          exact hr
variable {es : Array MapEntry} {clock cnt r : Nat} {todo : Int → Bool} {v : Option Nat} {tup : Value}
instance (priority := high) pci_hereE : PcI (itrE P kt e v r es clock todo cnt tup :: L) r (itrE P kt e v r es clock todo cnt tup) (fun Y => Y :: L) L := ⟨0, rfl, rfl, fun _ => rfl⟩

theorem s_rangeS [hm : MpT P t kt e] (hx : ev f x = .map v) [he : Ekc P e α E] [h : RdMp E kt (okOf w0 f0) w0 v N F]
    (hn : ∀ es clock cnt r, cnt ≤ N → MAt E kt (okOf w0 f0) w0 v es clock N F → sO P n w0 f0 ops false rest QC (up f d (.pointer (some ⟨r, 0, none⟩))) (itr P kt e v r es clock (fun k => (F k).isSome) cnt :: L)) (hd : Nat.blt d n = true := by rfl) : sO P n w0 f0 ops false (⟨some d, .range t x, ty, pos, after, none⟩ :: rest) QC f L :=
  fun w H => o_rangeS hm.k hm.u H h.h hx (fun es clock cnt r w' h1 h2 H' => hn es clock cnt r h1 h2 w' H'.head) hd
theorem s_nextS (hk : P.underlying kt = some (.int .i64)) (hM : MAt E kt (okOf w0 f0) w0 v es clock N F) (hx : ev f x = .pointer (some ⟨r, 0, none⟩)) [h : PcI L r (itr P kt e v r es clock todo cnt) put R]
    (h0 : (∀ k, F k ≠ none → todo k = false) → sO P n w0 f0 ops false rest QC (up f d (.tuple #[.bool false])) R)
    (h1 : ∀ k x cnt', wfi k → E.good x → todo k = true → F k = some x → cnt' < cnt → sO P n w0 f0 ops false rest QC (up f d (.tuple #[.bool true, .int .i64 k, E.enc x])) (put (itrE P kt e v r es clock (fun j => todo j && j != k) cnt' (.tuple #[.int .i64 k, E.enc x]))))
    (hd : Nat.blt d n = true := by rfl) : sO P n w0 f0 ops false (⟨some d, .next x false, ty, pos, after, none⟩ :: rest) QC f L := by
  intro w H
  obtain ⟨i, hi, hR, hp⟩ := h.at_
  refine o_nextS hk H i hi hM hx (fun hf => h0 hf w (by rw [hR]; exact H.drop i)) (fun k x w' cnt' hw ht hF hlt H' hen => ?_) hd
  refine h1 k x cnt' hw.1 hw.2 ht hF hlt w' ?_
  rw [hp]
  have hil := (List.getElem?_eq_some_iff.1 hi).1
  have := H'.turn i (A' := itrE P kt e v r es clock (fun j => todo j && j != k) cnt' (.tuple #[.int .i64 k, E.enc x])) (List.getElem?_set_self hil) fun g hg => itr.ent hg (fun b hb => by
    rcases hM with ⟨rfl, _⟩ | ⟨b', e1, hok, hb', _⟩
    · cases hb
    · rw [e1] at hb; cases hb
      exact (H'.ok0 _ hok).2.trans hb') hen
  rwa [List.set_set] at this
theorem s_entryS (hM : MAt E kt (okOf w0 f0) w0 v es clock N F) (hx : ev f x = .pointer (some ⟨r, 0, none⟩)) [h : PcI L r (itrE P kt e v r es clock todo cnt tup) put R]
    (hn : sO P n w0 f0 ops m rest QC (up f d tup) (put (itr P kt e v r es clock todo cnt))) (hd : Nat.blt d n = true := by rfl) : sO P n w0 f0 ops m (⟨some d, .entry x, ty, pos, after, none⟩ :: rest) QC f L := by
  intro w H
  obtain ⟨i, hi, hR, hp⟩ := h.at_
  obtain ⟨f1, hA, _, _⟩ := H.focus i hi
  obtain ⟨hI, o, ho, hE⟩ := hA
  refine o_entry hx (hE w ho fun b hb => ?_) (hn w ?_) hd
  · rcases hM with ⟨rfl, _⟩ | ⟨b', e1, hok, hb', _⟩
    · cases hb
    · rw [e1] at hb; cases hb
      exact (H.ok0 _ hok).2.trans hb'
  · rw [hp]; exact H.turn i hi fun g hg => hg.1
/-! .. of the call's own -/
theorem s_freeze {c : Code} (b : Nat) [h : PcM L b (mp E kt b N F) put] (hn : ∀ es clock, sC P n w0 f0 c QC f (put (mpz E kt b N F es clock))) : sC P n w0 f0 c QC f L := by
  intro w H
  obtain ⟨i, hi, hp⟩ := h.at_
  obtain ⟨es, clock, H'⟩ := H.freeze i hi
  exact hn es clock w (by rw [hp]; exact H')
theorem so_freeze {lo : List Oper} (b : Nat) [h : PcM L b (mp E kt b N F) put] (hn : ∀ es clock, sO P n w0 f0 ops m lo QC f (put (mpz E kt b N F es clock))) : sO P n w0 f0 ops m lo QC f L := by
  intro w H
  obtain ⟨i, hi, hp⟩ := h.at_
  obtain ⟨es, clock, H'⟩ := H.freeze i hi
  exact hn es clock w (by rw [hp]; exact H')
theorem s_thaw {c : Code} (b : Nat) [h : PcM L b (mpz E kt b N F es clock) put] (hn : sC P n w0 f0 c QC f (put (mp E kt b N F))) : sC P n w0 f0 c QC f L := by
  intro w H
  obtain ⟨i, hi, hp⟩ := h.at_
  exact hn w (by rw [hp]; exact H.thaw i hi)
theorem so_thaw {lo : List Oper} (b : Nat) [h : PcM L b (mpz E kt b N F es clock) put] (hn : sO P n w0 f0 ops m lo QC f (put (mp E kt b N F))) : sO P n w0 f0 ops m lo QC f L := by
  intro w H
  obtain ⟨i, hi, hp⟩ := h.at_
  exact hn w (by rw [hp]; exact H.thaw i hi)
theorem s_rangeR [hm : MpT P t kt e] (hx : ev f x = .map (some b)) [h : PcM L b (mpz E kt b N F es clock) put]
    (hn : ∀ cnt r, cnt ≤ N → sO P n w0 f0 ops false rest QC (up f d (.pointer (some ⟨r, 0, none⟩))) (itr P kt e (some b) r es clock (fun k => (F k).isSome) cnt :: L)) (hd : Nat.blt d n = true := by rfl) : sO P n w0 f0 ops false (⟨some d, .range t x, ty, pos, after, none⟩ :: rest) QC f L := by
  intro w H
  obtain ⟨i, hi, hp⟩ := h.at_
  exact o_rangeR hm.k hm.u H i hi hx (fun cnt r w' h1 H' => hn cnt r h1 w' H'.head) hd
theorem s_nextR {put' : HP → List HP} (hk : P.underlying kt = some (.int .i64)) (hx : ev f x = .pointer (some ⟨r, 0, none⟩)) [h : PcI L r (itr P kt e (some b) r es clock todo cnt) put R] [h' : PcM L b (mpz E kt b N F es clock) put']
    (h0 : (∀ k, F k ≠ none → todo k = false) → sO P n w0 f0 ops false rest QC (up f d (.tuple #[.bool false])) R)
    (h1 : ∀ k x cnt', wfi k → E.good x → todo k = true → F k = some x → cnt' < cnt → sO P n w0 f0 ops false rest QC (up f d (.tuple #[.bool true, .int .i64 k, E.enc x])) (put (itrE P kt e (some b) r es clock (fun j => todo j && j != k) cnt' (.tuple #[.int .i64 k, E.enc x]))))
    (hd : Nat.blt d n = true := by rfl) : sO P n w0 f0 ops false (⟨some d, .next x false, ty, pos, after, none⟩ :: rest) QC f L := by
  intro w H
  obtain ⟨i, hi, hR, hp⟩ := h.at_
  obtain ⟨j, hj, _⟩ := h'.at_
  have hij : i ≠ j := by
    intro e'
    subst e'
    rw [hi] at hj
    have e2 := Option.some.inj hj
    obtain ⟨f1, hA', _, _⟩ := H.focus i hi
    have hA := hA'
    obtain ⟨_, since, seen, c0, h2, _⟩ := hA
    have : (mpz E kt b N F es clock).sat w f1 := by rw [← e2]; exact hA'
    have q1 := (this.1 b).2 rfl
    have q2 := (hA'.1 b).1 q1
    have q3 := this.2.1
    rw [q2] at q3
    rw [h2] at q3
    cases q3
  refine o_nextR hk H i j hi hj hx (fun hf => h0 hf w (by rw [hR]; exact H.drop i)) (fun k x w' cnt' hw ht hF hlt H' hen => ?_) hd
  refine h1 k x cnt' hw.1 hw.2 ht hF hlt w' ?_
  rw [hp]
  have hil := (List.getElem?_eq_some_iff.1 hi).1
  have hj' : (L.set i (itr P kt e (some b) r es clock (fun j => todo j && j != k) cnt'))[j]? = some (mpz E kt b N F es clock) := by rw [List.getElem?_set_ne hij]; exact hj
  obtain ⟨f2, hZ, _, _⟩ := H'.focus j hj'
  have := H'.turn i (A' := itrE P kt e (some b) r es clock (fun j => todo j && j != k) cnt' (.tuple #[.int .i64 k, E.enc x])) (List.getElem?_set_self hil) fun g hg => itr.ent hg (fun b' hb' => by cases hb'; exact hZ.2.1) hen
  rwa [List.set_set] at this
theorem s_entryR {put' : HP → List HP} (hx : ev f x = .pointer (some ⟨r, 0, none⟩)) [h : PcI L r (itrE P kt e (some b) r es clock todo cnt tup) put R] [h' : PcM L b (mpz E kt b N F es clock) put']
    (hn : sO P n w0 f0 ops m rest QC (up f d tup) (put (itr P kt e (some b) r es clock todo cnt))) (hd : Nat.blt d n = true := by rfl) : sO P n w0 f0 ops m (⟨some d, .entry x, ty, pos, after, none⟩ :: rest) QC f L := by
  intro w H
  obtain ⟨i, hi, hR, hp⟩ := h.at_
  obtain ⟨j, hj, _⟩ := h'.at_
  obtain ⟨f1, hA, _, _⟩ := H.focus i hi
  obtain ⟨f2, hZ, _, _⟩ := H.focus j hj
  obtain ⟨hI, o, ho, hE⟩ := hA
  refine o_entry hx (hE w ho fun b' hb' => by cases hb'; exact hZ.2.1) (hn w ?_) hd
  rw [hp]; exact H.turn i hi fun g hg => hg.1
theorem s_lenMZ [hm : MpT P t kt e] (hx : ev f x = .map (some b)) [h : PcM L b (mpz E kt b N F es clock) put] (hn : sO P n w0 f0 ops m rest QC (up f d (.int .i64 (es.size : Nat))) L) (hd : Nat.blt d n = true := by rfl) : sO P n w0 f0 ops m (⟨some d, .call { callee := .builtin .len, args := #[x], argTypes := #[t] }, ty, pos, after, none⟩ :: rest) QC f L := by
  intro w H
  obtain ⟨i, hi, _⟩ := h.at_
  exact o_lenM hm.u H i hi hx (hn w H) hd
end
end Go.Proofs.Ytfplmdjlgjgbgaa
