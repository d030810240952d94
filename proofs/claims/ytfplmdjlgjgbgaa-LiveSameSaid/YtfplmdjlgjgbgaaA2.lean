/- How typed values lie in memory; the pieces by their keys. -/
import Derived.Test.YtfplmdjlgjgbgaaA1
namespace Go.Proofs.Ytfplmdjlgjgbgaa
set_option linter.unusedVariables false
set_option linter.unusedSimpArgs false
open Go Go.RowKit

class Enc (α : Type) where
  enc : α → List Value
  sz : Nat
  dflt : α
  len : ∀ x, (enc x).length = sz
  one : ∀ x u, u ∈ enc x → u.oneCell' = true
  pos : 0 < sz
def nth {α : Type} [Enc α] (xs : List α) (i : Nat) : α := xs.getD i Enc.dflt
theorem nth_of {α : Type} [Enc α] {xs : List α} {i : Nat} {v : α} (h : xs[i]? = some v) : nth xs i = v := by simp [nth, h]
theorem nth_some {α : Type} [Enc α] {xs : List α} {i : Nat} (h : i < xs.length) : xs[i]? = some (nth xs i) := by simp [nth, h]
theorem nth_get {α : Type} [Enc α] {xs : List α} {i : Nat} (h : i < xs.length) : nth xs i = xs[i] := by simp [nth, h]
theorem nth_out {α : Type} [Enc α] {xs : List α} {i : Nat} (h : xs.length ≤ i) : nth xs i = Enc.dflt := by simp [nth, h]
theorem nth_mem {α : Type} [Enc α] {xs : List α} {i : Nat} (h : i < xs.length) : nth xs i ∈ xs := List.mem_of_getElem? (nth_some h)
theorem nth_set {α : Type} [Enc α] {xs : List α} {i j : Nat} {v : α} (h : i < xs.length) : nth (xs.set i v) j = if j = i then v else nth xs j := by
  unfold nth
  by_cases e : j = i
  · subst e; simp [h]
  · rw [if_neg e, List.getD_eq_getElem?_getD, List.getD_eq_getElem?_getD, List.getElem?_set_ne (Ne.symm e)]
theorem nth_app {α : Type} [Enc α] {xs ys : List α} {i : Nat} : nth (xs ++ ys) i = if i < xs.length then nth xs i else nth ys (i - xs.length) := by
  unfold nth
  rw [List.getD_eq_getElem?_getD, List.getD_eq_getElem?_getD, List.getD_eq_getElem?_getD]
  split
  · rename_i h; rw [List.getElem?_append_left h]
  · rename_i h; rw [List.getElem?_append_right (by omega)]
theorem nth_rep {α : Type} [Enc α] {m i : Nat} : nth (List.replicate m (Enc.dflt : α)) i = Enc.dflt := by
  unfold nth; rw [List.getD_eq_getElem?_getD, List.getElem?_replicate]; split <;> rfl

/-- Slices: where they lie, and what is in them. -/
structure Sl (α : Type) where
  A : Option Addr
  c : Nat
  xs : List α
abbrev GoStr := ByteArray
def u64 := Int
def u8 := Int
instance : Enc Int := ⟨fun x => [.int .i64 x], 1, 0, fun _ => rfl, fun _ u h => by simp at h; subst h; rfl, by decide⟩
instance : Enc Bool := ⟨fun x => [.bool x], 1, false, fun _ => rfl, fun _ u h => by simp at h; subst h; rfl, by decide⟩
instance {α : Type} : Enc (Sl α) := ⟨fun s => [.slice s.A s.xs.length s.c], 1, ⟨none, 0, []⟩, fun _ => rfl, fun _ u h => by simp at h; subst h; rfl, by decide⟩
/-- maps, as they are handed about -/
structure Mr where
  b : Option Nat
instance : Enc Mr := ⟨fun s => [.map s.b], 1, ⟨none⟩, fun _ => rfl, fun _ u h => by simp at h; subst h; rfl, by decide⟩
structure Pr where
  a : Option Addr
instance : Enc Pr := ⟨fun s => [.pointer s.a], 1, ⟨none⟩, fun _ => rfl, fun _ u h => by simp at h; subst h; rfl, by decide⟩
@[simp] theorem dflt_int : (Enc.dflt : Int) = 0 := rfl
@[simp] theorem dflt_bool : (Enc.dflt : Bool) = false := rfl
@[simp] theorem dflt_sl {α : Type} : (Enc.dflt : Sl α) = ⟨none, 0, []⟩ := rfl
@[simp] theorem dflt_mr : (Enc.dflt : Mr) = ⟨none⟩ := rfl

/-! ### types of the program -/
class Elt (P : Program) (e : TypeId) (α : outParam Type) (I : outParam (Enc α)) (sz bytes : outParam Nat) : Prop where
  ex : ∃ zv, TI P e zv sz bytes ∧ zv.cells.toList = I.enc I.dflt
  sz_eq : I.sz = sz
class SlT (P : Program) (t : TypeId) (e : outParam TypeId) : Prop where
  u : P.underlying t = some (.slice e)
class FldT (P : Program) (t : TypeId) (k : Nat) (off : outParam Nat) : Prop where
  ex : ∃ fs fl m, P.underlying t = some (.struct fs) ∧ fs[k]? = some fl ∧ fl.offset = off ∧ ∀ w, (sizeOf fl.type).run P w = .ok (m + 1) w
class C1 (P : Program) (t : TypeId) : Prop where
  h : T1 P t
class CA (P : Program) (t : TypeId) (m : outParam Nat) : Prop where
  h : TA P t m

def adr0 : Addr := ⟨0, 0, none⟩
def pt (A : Option Addr) (k : Nat) : Value := .pointer (some ((A.getD adr0).add k))

/-! ### pieces -/
def own {α : Type} [I : Enc α] (e : TypeId) (A : Option Addr) (l c : Nat) (xs : List α) : HP := row A l c e I.sz (xs.flatMap I.enc)
def tmpo {α : Type} [I : Enc α] (e : TypeId) (A : Option Addr) (l c : Nat) (xs : List α) : HP := own e A l c xs
def var {α : Type} [I : Enc α] (e : TypeId) (b : Nat) (x : α) : HP := blk b e (I.enc x)
def rws {α : Type} [I : Enc α] (e : TypeId) (ss : List (Sl α)) : HP := star (ss.map fun s => own e s.A s.xs.length s.c s.xs)

class Pc (L : List HP) (A : Option Addr) (X : outParam HP) (put : outParam (HP → List HP)) : Prop where
  at_ : ∃ i, L[i]? = some X ∧ ∀ Y, put Y = L.set i Y
class PcB (L : List HP) (b : Nat) (X : outParam HP) (put : outParam (HP → List HP)) : Prop where
  at_ : ∃ i, L[i]? = some X ∧ ∀ Y, put Y = L.set i Y
class PcR (L : List HP) {α : Type} [Enc α] (s : Sl α) (X : outParam HP) (ss : outParam (List (Sl α))) (i : outParam Nat) (put : outParam (HP → List HP)) : Prop where
  at_ : ∃ i, L[i]? = some X ∧ ∀ Y, put Y = L.set i Y
  key : nth ss i = s
/-- a piece taken out -/
class Pd (L : List HP) (A : Option Addr) (X : outParam HP) (R : outParam (List HP)) : Prop where
  at_ : ∃ i, L[i]? = some X ∧ R = L.eraseIdx i
section
variable {α : Type} [Enc α] {e : TypeId} {A : Option Addr} {l c b : Nat} {xs : List α} {x : α} {X : HP} {B : HP} {L L1 R : List HP} {put : HP → List HP} {ss : List (Sl α)} {s : Sl α} {i : Nat}
instance (priority := high) pc_here : Pc (own e A l c xs :: L) A (own e A l c xs) (fun Y => Y :: L) := ⟨0, rfl, fun _ => rfl⟩
instance pc_next [h : Pc L A X put] : Pc (B :: L) A X (fun Y => B :: put Y) := by
  obtain ⟨i, h1, h2⟩ := h.at_; exact ⟨i + 1, h1, fun Y => by rw [h2]; rfl⟩
instance (priority := high) pcb_here : PcB (var e b x :: L) b (var e b x) (fun Y => Y :: L) := ⟨0, rfl, fun _ => rfl⟩
instance pcb_next [h : PcB L b X put] : PcB (B :: L) b X (fun Y => B :: put Y) := by
  obtain ⟨i, h1, h2⟩ := h.at_; exact ⟨i + 1, h1, fun Y => by rw [h2]; rfl⟩
instance (priority := high) pcr_here : PcR (rws e ss :: L) (nth ss i) (rws e ss) ss i (fun Y => Y :: L) := ⟨⟨0, rfl, fun _ => rfl⟩, rfl⟩
instance pcr_next [h : PcR L s X ss i put] : PcR (B :: L) s X ss i (fun Y => B :: put Y) := by
  obtain ⟨i, h1, h2⟩ := h.at_; exact ⟨⟨i + 1, h1, fun Y => by rw [h2]; rfl⟩, h.key⟩
instance (priority := high) pd_here : Pd (tmpo e A l c xs :: L) A (tmpo e A l c xs) L := ⟨0, rfl, rfl⟩
instance pd_next [h : Pd L A X R] : Pd (B :: L) A X (B :: R) := by
  obtain ⟨i, h1, h2⟩ := h.at_; exact ⟨i + 1, h1, by rw [h2]; rfl⟩
instance pc_app [h : Pc L A X put] : Pc (L1 ++ L) A X (fun Y => L1 ++ put Y) := by
  obtain ⟨i, h1, h2⟩ := h.at_
  refine ⟨L1.length + i, by rw [List.getElem?_append_right (by omega), Nat.add_sub_cancel_left]; exact h1, fun Y => ?_⟩
  rw [h2, List.set_append_right _ _ (by omega), Nat.add_sub_cancel_left]
instance pc_nil [h : Pc L A X put] : Pc ([] ++ L) A X put := h
instance pc_cons [h : Pc (B :: (L1 ++ L)) A X put] : Pc ((B :: L1) ++ L) A X put := h
instance pcb_nil [h : PcB L b X put] : PcB ([] ++ L) b X put := h
instance pcb_cons [h : PcB (B :: (L1 ++ L)) b X put] : PcB ((B :: L1) ++ L) b X put := h
instance pcr_nil [h : PcR L s X ss i put] : PcR ([] ++ L) s X ss i put := h
instance pcr_cons [h : PcR (B :: (L1 ++ L)) s X ss i put] : PcR ((B :: L1) ++ L) s X ss i put := h
instance pd_nil [h : Pd L A X R] : Pd ([] ++ L) A X R := h
instance pd_cons [h : Pd (B :: (L1 ++ L)) A X R] : Pd ((B :: L1) ++ L) A X R := h
instance pcb_app [h : PcB L b X put] : PcB (L1 ++ L) b X (fun Y => L1 ++ put Y) := by
  obtain ⟨i, h1, h2⟩ := h.at_
  refine ⟨L1.length + i, by rw [List.getElem?_append_right (by omega), Nat.add_sub_cancel_left]; exact h1, fun Y => ?_⟩
  rw [h2, List.set_append_right _ _ (by omega), Nat.add_sub_cancel_left]
end

/-! ### what is only read, at depth -/
class Dp (α : Type) [Enc α] where
  rd : FP → World → α → Prop
  loc : ∀ {ok ok' : FP} {w w' : World} {x : α}, rd ok w x → (∀ b, ok b → ok' b ∧ w'.heap[b]? = w.heap[b]?) → rd ok' w' x
  dflt : ∀ ok w, rd ok w Enc.dflt
class RdD {α : Type} [Enc α] [Dp α] (ok : FP) (w : World) (x : α) : Prop where
  h : Dp.rd ok w x
instance : Dp Int := ⟨fun _ _ x => wfi x, fun h _ => h, fun _ _ => by unfold wfi; decide⟩
instance : Dp Bool := ⟨fun _ _ _ => True, fun h _ => h, fun _ _ => trivial⟩
def RdSl {α : Type} [I : Enc α] (ok : FP) (w : World) (s : Sl α) : Prop := RdS ok w s.A s.xs.length s.c I.sz (s.xs.flatMap I.enc)
instance {α : Type} [I : Enc α] [D : Dp α] : Dp (Sl α) := ⟨fun ok w s => RdSl ok w s ∧ ∀ x ∈ s.xs, D.rd ok w x, fun h hk => ⟨h.1.loc hk, fun x hx => D.loc (h.2 x hx) hk⟩,
  fun ok w => ⟨⟨by simp [Enc.dflt], Nat.le_refl _, Nat.zero_le _, .inl rfl⟩, fun x hx => by cases hx⟩⟩
instance rd_nth {α : Type} [Enc α] [D : Dp α] {ok : FP} {w : World} {s : Sl α} {i : Nat} [h : RdD ok w s] : RdD ok w (nth s.xs i) := ⟨by
  by_cases hi : i < s.xs.length
  · exact h.h.2 _ (nth_mem hi)
  · rw [nth_out (by omega)]; exact D.dflt ok w⟩
theorem RdD.loc {α : Type} [Enc α] [D : Dp α] {ok ok' : FP} {w w' : World} {x : α} (h : RdD ok w x) (hk : ∀ b, ok b → ok' b ∧ w'.heap[b]? = w.heap[b]?) : RdD ok' w' x := ⟨D.loc h.h hk⟩
theorem RdD.int {ok : FP} {w : World} {x : Int} (h : RdD ok w x) : wfi x := h.h
/-- A block that is only read. -/
class RdB {α : outParam Type} [I : outParam (Enc α)] (ok : FP) (w : World) (b : Nat) (x : outParam α) : Prop where
  h : Cells ok w ⟨b, 0, none⟩ (I.enc x)

section
variable {P : Program} {n : Nat} {w0 w : World} {f0 : FP} {ops : Array Oper} {m : Bool} {rest : List Oper} {QC : Exit → Fr → World → Prop} {f : Fr} {L R : List HP} {x y z : Operand}
variable {d : Tmp} {ty t yt e e2 : TypeId} {pos : String} {after : Array Edge} {α : Type} {I : Enc α} {sz bytes : Nat} {A : Option Addr} {l c : Nat} {xs : List α} {put : HP → List HP} {X : HP}

theorem own.len' (hE : Elt P e α I sz bytes) {g : FP} (h : (own e A l c xs).sat w g) : xs.length = l ∧ l ≤ c ∧ c ≤ maxLen := by
  have h1 := row.len (show (row A l c e I.sz (xs.flatMap I.enc)).sat w g from h)
  rw [flat_len (sz := I.sz) (fun a _ => I.len a)] at h1
  exact ⟨Nat.eq_of_mul_eq_mul_right I.pos h1.1, h1.2⟩
theorem own.len {g : FP} (h : (own (I := I) e A l c xs).sat w g) : xs.length = l ∧ l ≤ c ∧ c ≤ maxLen := by
  have h1 := row.len (show (row A l c e I.sz (xs.flatMap I.enc)).sat w g from h)
  rw [flat_len (sz := I.sz) (fun a _ => I.len a)] at h1
  exact ⟨Nat.eq_of_mul_eq_mul_right I.pos h1.1, h1.2⟩

/-- The length of a row of the call's own is known. -/
theorem s_lenO (A : Option Addr) {c1 : Code} [h : Pc L A (own (I := I) e A l c xs) put] (k : xs.length = l → l ≤ c → c ≤ maxLen → sC P n w0 f0 c1 QC f L) : sC P n w0 f0 c1 QC f L := by
  intro w H
  obtain ⟨i, h1, _⟩ := h.at_
  obtain ⟨g, hA, _⟩ := H.focus i h1
  obtain ⟨a, b, c⟩ := own.len hA
  exact k a b c w H
theorem so_lenO (A : Option Addr) {lo : List Oper} [h : Pc L A (own (I := I) e A l c xs) put] (k : xs.length = l → l ≤ c → c ≤ maxLen → sO P n w0 f0 ops m lo QC f L) : sO P n w0 f0 ops m lo QC f L := by
  intro w H
  obtain ⟨i, h1, _⟩ := h.at_
  obtain ⟨g, hA, _⟩ := H.focus i h1
  obtain ⟨a, b, c⟩ := own.len hA
  exact k a b c w H
theorem se_lenO (A : Option Addr) {ex : Exit} [h : Pc L A (own (I := I) e A l c xs) put] (k : xs.length = l → l ≤ c → c ≤ maxLen → sE w0 f0 QC ex f L) : sE w0 f0 QC ex f L := by
  intro w H
  obtain ⟨i, h1, _⟩ := h.at_
  obtain ⟨g, hA, _⟩ := H.focus i h1
  obtain ⟨a, b, c⟩ := own.len hA
  exact k a b c w H

theorem s_len {l c : Nat} [hs : SlT P t e] (hx : ev f x = .slice A l c) (h : sO P n w0 f0 ops m rest QC (up f d (.int .i64 (l : Nat))) L) (hd : Nat.blt d n = true := by rfl) :
    sO P n w0 f0 ops m (⟨some d, .call { callee := .builtin .len, args := #[x], argTypes := #[t] }, ty, pos, after, none⟩ :: rest) QC f L := fun w H => o_len hs.u hx (h w H) hd

/-! elements of a row of the call's own -/
theorem s_idx [hs : SlT P t e] [hE : Elt P e α I sz bytes] {k : IntKind} {j : Nat} (hx : ev f x = .slice A l c) (hy : ev f y = .int k (j : Int)) [h : Pc L A (own (I := I) e2 A l c xs) put] (h1 : j < l)
    (hn : sO P n w0 f0 ops m rest QC (up f d (pt A (j * sz))) L) (hd : Nat.blt d n = true := by rfl) : sO P n w0 f0 ops m (⟨some d, .indexAddr t x y, ty, pos, after, none⟩ :: rest) QC f L := by
  intro w H
  obtain ⟨zv, hTI, _⟩ := hE.ex
  obtain ⟨i, hi, _⟩ := h.at_
  have hi' : L[i]? = some (row A l c e2 sz (xs.flatMap I.enc)) := by rw [hi, ← hE.sz_eq]; rfl
  refine o_idxR hs.u hTI H i hi' hx hy (by omega) (by omega) (fun a ha _ => ?_) hd
  subst ha
  exact hn w H
theorem s_idxI [hs : SlT P t e] [hE : Elt P e α I sz bytes] {k : IntKind} {j : Int} (hx : ev f x = .slice A l c) (hy : ev f y = .int k j) [h : Pc L A (own (I := I) e2 A l c xs) put] (h0 : 0 ≤ j) (h1 : j < l)
    (hn : sO P n w0 f0 ops m rest QC (up f d (pt A (j.toNat * sz))) L) (hd : Nat.blt d n = true := by rfl) : sO P n w0 f0 ops m (⟨some d, .indexAddr t x y, ty, pos, after, none⟩ :: rest) QC f L :=
  s_idx (j := j.toNat) hx (by rw [Int.toNat_of_nonneg h0]; exact hy) (by omega) hn hd
/-- .. of one that is only read -/
theorem s_idxS [hs : SlT P t e] [hE : Elt P e α I sz bytes] [Dp α] {s : Sl α} {k : IntKind} {j : Nat} (hx : ev f x = .slice s.A s.xs.length s.c) (hy : ev f y = .int k (j : Int)) [h : RdD (okOf w0 f0) w0 s] (h1 : j < s.xs.length)
    (hn : sO P n w0 f0 ops m rest QC (up f d (pt s.A (j * sz))) L) (hd : Nat.blt d n = true := by rfl) : sO P n w0 f0 ops m (⟨some d, .indexAddr t x y, ty, pos, after, none⟩ :: rest) QC f L := by
  intro w H
  obtain ⟨zv, hTI, _⟩ := hE.ex
  have hR := h.h.1
  unfold RdSl at hR
  rw [hE.sz_eq] at hR
  refine o_idxS hs.u hTI hR hx hy (by omega) (by omega) (fun a ha _ => ?_) hd
  have := hn w H
  rw [ha] at this
  exact this
theorem s_idxSI [hs : SlT P t e] [hE : Elt P e α I sz bytes] [Dp α] {s : Sl α} {k : IntKind} {j : Int} (hx : ev f x = .slice s.A s.xs.length s.c) (hy : ev f y = .int k j) [h : RdD (okOf w0 f0) w0 s] (h0 : 0 ≤ j) (h1 : j < s.xs.length)
    (hn : sO P n w0 f0 ops m rest QC (up f d (pt s.A (j.toNat * sz))) L) (hd : Nat.blt d n = true := by rfl) : sO P n w0 f0 ops m (⟨some d, .indexAddr t x y, ty, pos, after, none⟩ :: rest) QC f L :=
  s_idxS (j := j.toNat) hx (by rw [Int.toNat_of_nonneg h0]; exact hy) (by omega) hn hd
/-- .. of one of many rows -/
theorem rws.inner {ss : List (Sl α)} {q : Nat} {i : Nat} (H : St w0 f0 L w) (hi : L[i]? = some (rws e ss)) (hq : q < ss.length) : ∃ g, (own e (nth ss q).A (nth ss q).xs.length (nth ss q).c (nth ss q).xs).sat w g := by
  have := H.pull i hi q (R := own e (nth ss q).A (nth ss q).xs.length (nth ss q).c (nth ss q).xs) (by rw [List.getElem?_map, nth_some hq]; rfl)
  obtain ⟨f1, h, _⟩ := this.focus L.length (A := own e (nth ss q).A (nth ss q).xs.length (nth ss q).c (nth ss q).xs) (by rw [List.getElem?_append_right (by simp)]; simp)
  exact ⟨f1, h⟩
theorem s_idxR [hs : SlT P t e] [hE : Elt P e α I sz bytes] {s : Sl α} {ss : List (Sl α)} {q : Nat} {k : IntKind} {j : Nat} (hx : ev f x = .slice s.A s.xs.length s.c) (hy : ev f y = .int k (j : Int)) [h : PcR L s (rws e2 ss) ss q put] (h1 : j < s.xs.length)
    (hn : sO P n w0 f0 ops m rest QC (up f d (pt s.A (j * sz))) L) (hd : Nat.blt d n = true := by rfl) : sO P n w0 f0 ops m (⟨some d, .indexAddr t x y, ty, pos, after, none⟩ :: rest) QC f L := by
  intro w H
  obtain ⟨zv, hTI, _⟩ := hE.ex
  obtain ⟨i, hi, _⟩ := h.at_
  have hq : q < ss.length := by
    apply Classical.byContradiction
    intro hn
    have := h.key
    rw [nth_out (by omega)] at this
    rw [← this] at h1
    exact absurd h1 (Nat.not_lt_zero _)
  obtain ⟨g, hg⟩ := rws.inner H hi hq
  rw [h.key] at hg
  have hg : (row s.A s.xs.length s.c e2 I.sz (s.xs.flatMap I.enc)).sat w g := hg
  obtain ⟨a, ha, _⟩ := row.adr hg (by omega)
  have := hn w H
  refine o_idx hs.u hTI.size (by rw [hx, ha]) hy (by omega) (by omega) ?_ hd
  unfold pt at this
  rw [ha] at this
  exact this
theorem s_idxRI [hs : SlT P t e] [hE : Elt P e α I sz bytes] {s : Sl α} {ss : List (Sl α)} {q : Nat} {k : IntKind} {j : Int} (hx : ev f x = .slice s.A s.xs.length s.c) (hy : ev f y = .int k j) [h : PcR L s (rws e2 ss) ss q put] (h0 : 0 ≤ j) (h1 : j < s.xs.length)
    (hn : sO P n w0 f0 ops m rest QC (up f d (pt s.A (j.toNat * sz))) L) (hd : Nat.blt d n = true := by rfl) : sO P n w0 f0 ops m (⟨some d, .indexAddr t x y, ty, pos, after, none⟩ :: rest) QC f L :=
  s_idxR (j := j.toNat) hx (by rw [Int.toNat_of_nonneg h0]; exact hy) (by omega) hn hd

/-! fields -/
theorem s_fld {k off : Nat} {q : Nat} [h : FldT P t k off] (hx : ev f x = pt A q) (hn : sO P n w0 f0 ops m rest QC (up f d (pt A (q + off))) L) (hd : Nat.blt d n = true := by rfl) : sO P n w0 f0 ops m (⟨some d, .fieldAddr t x k, ty, pos, after, none⟩ :: rest) QC f L := by
  intro w H
  obtain ⟨fs, fl, mm, h1, h2, rfl, h3⟩ := h.ex
  refine o_fld h1 h2 h3 hx ?_ hd
  have := hn w H
  unfold pt at this
  rw [← add_add'] at this
  exact this
theorem s_fldB {k off : Nat} {b o : Nat} [h : FldT P t k off] (hx : ev f x = .pointer (some ⟨b, o, none⟩)) (hn : sO P n w0 f0 ops m rest QC (up f d (.pointer (some ⟨b, o + off, none⟩))) L) (hd : Nat.blt d n = true := by rfl) : sO P n w0 f0 ops m (⟨some d, .fieldAddr t x k, ty, pos, after, none⟩ :: rest) QC f L := by
  intro w H
  obtain ⟨fs, fl, mm, h1, h2, rfl, h3⟩ := h.ex
  refine o_fld h1 h2 h3 hx ?_ hd
  have := hn w H
  rw [add_spot rfl]
  exact this

/-! loads -/
theorem own.at (hE : Elt P e α I sz bytes) {g : FP} (h : (own (I := I) e2 A l c xs).sat w g) {j o : Nat} (hj : j < l) {v : Value} (hv : (I.enc (nth xs j))[o]? = some v) : ∃ a, A = some a ∧ w.cell? (a.add (j * sz + o)) = some v := by
  have hl := own.len h
  obtain ⟨a, rfl, _⟩ := row.adr (show (row A l c e2 I.sz (xs.flatMap I.enc)).sat w g from h) (by omega)
  refine ⟨a, rfl, row.cell (show (row (some a) l c e2 I.sz (xs.flatMap I.enc)).sat w g from h) ?_⟩
  rw [← hE.sz_eq, flat_get (fun a _ => I.len a) (nth_some (by omega)) (by have := (List.getElem?_eq_some_iff.1 hv).1; rw [I.len] at this; exact this)]
  exact hv
theorem ld_own [hT : C1 P t] (hE : Elt P e α I sz bytes) {i : Nat} (H : St w0 f0 L w) (hi : L[i]? = some (own (I := I) e2 A l c xs)) {j o : Nat} (hj : j < l) {v : Value} (hv : (I.enc (nth xs j))[o]? = some v) : (loadVar t ((A.getD adr0).add (j * sz + o))).run P w = .ok v w := by
  obtain ⟨g, hA, _⟩ := H.focus i hi
  obtain ⟨a, rfl, hc⟩ := own.at hE hA hj hv
  exact ld1 hT.h hc
theorem s_ld [hT : C1 P t] {j : Nat} (hx : ev f x = pt A (j * sz)) [h : Pc L A (own (I := I) e2 A l c xs) put] [hE : Elt P e2 α I sz bytes] (h1 : j < l) {v : Value} (hv : (I.enc (nth xs j))[0]? = some v)
    (hn : sO P n w0 f0 ops m rest QC (up f d v) L) (hd : Nat.blt d n = true := by rfl) : sO P n w0 f0 ops m (⟨some d, .load t x, ty, pos, after, none⟩ :: rest) QC f L := by
  intro w H
  obtain ⟨i, hi, _⟩ := h.at_
  exact o_load hx (ld_own hE H hi h1 hv) (hn w H) hd
theorem s_ldF [hT : C1 P t] {j o : Nat} (hx : ev f x = pt A (j * sz + o)) [h : Pc L A (own (I := I) e2 A l c xs) put] [hE : Elt P e2 α I sz bytes] (h1 : j < l) {v : Value} (hv : (I.enc (nth xs j))[o]? = some v)
    (hn : sO P n w0 f0 ops m rest QC (up f d v) L) (hd : Nat.blt d n = true := by rfl) : sO P n w0 f0 ops m (⟨some d, .load t x, ty, pos, after, none⟩ :: rest) QC f L := by
  intro w H
  obtain ⟨i, hi, _⟩ := h.at_
  exact o_load hx (ld_own hE H hi h1 hv) (hn w H) hd
theorem enc_at {u : α} {o q : Nat} (h : o + q ≤ I.sz) {k : Nat} {v : Value} (hk : (((I.enc u).drop o).take q)[k]? = some v) : (I.enc u)[o + k]? = some v := by
  have hkq : k < q := by
    have := (List.getElem?_eq_some_iff.1 hk).1
    simp at this; omega
  rwa [List.getElem?_take_of_lt hkq, List.getElem?_drop] at hk
theorem s_ldA {q : Nat} [hT : CA P t q] {j : Nat} (hx : ev f x = pt A (j * sz)) [h : Pc L A (own (I := I) e2 A l c xs) put] [hE : Elt P e2 α I sz bytes] (h1 : j < l) (hq : q = sz)
    (hn : sO P n w0 f0 ops m rest QC (up f d (.agg (I.enc (nth xs j)).toArray)) L) (hd : Nat.blt d n = true := by rfl) : sO P n w0 f0 ops m (⟨some d, .load t x, ty, pos, after, none⟩ :: rest) QC f L := by
  intro w H
  obtain ⟨i, hi, _⟩ := h.at_
  obtain ⟨g, hA, _⟩ := H.focus i hi
  refine o_load hx (ldA hT.h (by rw [I.len, hE.sz_eq, hq]) fun k v hk => ?_) (hn w H) hd
  obtain ⟨a, rfl, hc⟩ := own.at hE hA h1 hk
  rw [add_add']
  exact hc
theorem s_ldFA {q : Nat} [hT : CA P t q] {j o : Nat} (hx : ev f x = pt A (j * sz + o)) [h : Pc L A (own (I := I) e2 A l c xs) put] [hE : Elt P e2 α I sz bytes] (h1 : j < l) (hq : o + q ≤ sz)
    (hn : sO P n w0 f0 ops m rest QC (up f d (.agg (((I.enc (nth xs j)).drop o).take q).toArray)) L) (hd : Nat.blt d n = true := by rfl) : sO P n w0 f0 ops m (⟨some d, .load t x, ty, pos, after, none⟩ :: rest) QC f L := by
  intro w H
  obtain ⟨i, hi, _⟩ := h.at_
  obtain ⟨g, hA, _⟩ := H.focus i hi
  refine o_load hx (ldA hT.h (by rw [List.length_take, List.length_drop, I.len, hE.sz_eq]; omega) fun k v hk => ?_) (hn w H) hd
  obtain ⟨a, rfl, hc⟩ := own.at hE hA h1 (enc_at (by rw [hE.sz_eq]; exact hq) hk)
  rw [add_add', Nat.add_assoc]
  exact hc
/-! .. of what is only read -/
theorem rds_at (hz : I.sz = sz) [D : Dp α] {s : Sl α} (H : St w0 f0 L w) (h : RdD (okOf w0 f0) w0 s) {j o : Nat} (hj : j < s.xs.length) {v : Value} (hv : (I.enc (nth s.xs j))[o]? = some v) : w.cell? ((s.A.getD adr0).add (j * sz + o)) = some v := by
  rcases h.h.1.2.2.2 with h0 | ⟨a, ha, hC⟩
  · omega
  · rw [ha]
    refine (hC.loc H.ok0).2 _ _ ?_
    rw [← hz, flat_get (fun a _ => I.len a) (nth_some hj) (by have := (List.getElem?_eq_some_iff.1 hv).1; rw [I.len] at this; exact this)]
    exact hv
theorem s_ldS [hT : C1 P t] [Dp α] {s : Sl α} {j : Nat} (hx : ev f x = pt s.A (j * sz)) [h : RdD (okOf w0 f0) w0 s] (hz : I.sz = sz) (h1 : j < s.xs.length) {v : Value} (hv : (I.enc (nth s.xs j))[0]? = some v)
    (hn : sO P n w0 f0 ops m rest QC (up f d v) L) (hd : Nat.blt d n = true := by rfl) : sO P n w0 f0 ops m (⟨some d, .load t x, ty, pos, after, none⟩ :: rest) QC f L :=
  fun w H => o_load hx (ld1 hT.h (rds_at hz H h h1 hv)) (hn w H) hd
theorem s_ldSF [hT : C1 P t] [Dp α] {s : Sl α} {j o : Nat} (hx : ev f x = pt s.A (j * sz + o)) [h : RdD (okOf w0 f0) w0 s] (hz : I.sz = sz) (h1 : j < s.xs.length) {v : Value} (hv : (I.enc (nth s.xs j))[o]? = some v)
    (hn : sO P n w0 f0 ops m rest QC (up f d v) L) (hd : Nat.blt d n = true := by rfl) : sO P n w0 f0 ops m (⟨some d, .load t x, ty, pos, after, none⟩ :: rest) QC f L :=
  fun w H => o_load hx (ld1 hT.h (rds_at hz H h h1 hv)) (hn w H) hd
theorem s_ldSA {q : Nat} [hT : CA P t q] [Dp α] {s : Sl α} {j : Nat} (hx : ev f x = pt s.A (j * sz)) [h : RdD (okOf w0 f0) w0 s] (hz : I.sz = sz) (h1 : j < s.xs.length) (hq : q = sz)
    (hn : sO P n w0 f0 ops m rest QC (up f d (.agg (I.enc (nth s.xs j)).toArray)) L) (hd : Nat.blt d n = true := by rfl) : sO P n w0 f0 ops m (⟨some d, .load t x, ty, pos, after, none⟩ :: rest) QC f L :=
  fun w H => o_load hx (ldA hT.h (by rw [I.len, hz, hq]) fun k v hk => by rw [add_add']; exact rds_at hz H h h1 hk) (hn w H) hd
theorem s_ldSFA {q : Nat} [hT : CA P t q] [Dp α] {s : Sl α} {j o : Nat} (hx : ev f x = pt s.A (j * sz + o)) [h : RdD (okOf w0 f0) w0 s] (hz : I.sz = sz) (h1 : j < s.xs.length) (hq : o + q ≤ sz)
    (hn : sO P n w0 f0 ops m rest QC (up f d (.agg (((I.enc (nth s.xs j)).drop o).take q).toArray)) L) (hd : Nat.blt d n = true := by rfl) : sO P n w0 f0 ops m (⟨some d, .load t x, ty, pos, after, none⟩ :: rest) QC f L :=
  fun w H => o_load hx (ldA hT.h (by rw [List.length_take, List.length_drop, I.len, hz]; omega) fun k v hk => by rw [add_add', Nat.add_assoc]; exact rds_at hz H h h1 (enc_at (by rw [hz]; exact hq) hk)) (hn w H) hd
/-! .. of one of many rows -/
theorem s_ldR [hT : C1 P t] {s : Sl α} {ss : List (Sl α)} {r j : Nat} (hx : ev f x = pt s.A (j * sz)) [h : PcR L s (rws e2 ss) ss r put] [hE : Elt P e2 α I sz bytes] (h1 : j < s.xs.length) {v : Value} (hv : (I.enc (nth s.xs j))[0]? = some v)
    (hn : sO P n w0 f0 ops m rest QC (up f d v) L) (hd : Nat.blt d n = true := by rfl) : sO P n w0 f0 ops m (⟨some d, .load t x, ty, pos, after, none⟩ :: rest) QC f L := by
  intro w H
  obtain ⟨i, hi, _⟩ := h.at_
  have hq : r < ss.length := by
    apply Classical.byContradiction
    intro hn
    have := h.key
    rw [nth_out (by omega)] at this
    rw [← this] at h1
    exact absurd h1 (Nat.not_lt_zero _)
  obtain ⟨g, hg⟩ := rws.inner H hi hq
  rw [h.key] at hg
  obtain ⟨a, ha, hc⟩ := own.at hE hg h1 hv
  refine o_load hx ?_ (hn w H) hd
  rw [ha]
  exact ld1 hT.h hc
/-! .. of blocks -/
theorem s_ldB [hT : C1 P t] {b o : Nat} {u : α} (hx : ev f x = .pointer (some ⟨b, o, none⟩)) [h : PcB L b (var (I := I) e b u) put] {v : Value} (hv : (I.enc u)[o]? = some v)
    (hn : sO P n w0 f0 ops m rest QC (up f d v) L) (hd : Nat.blt d n = true := by rfl) : sO P n w0 f0 ops m (⟨some d, .load t x, ty, pos, after, none⟩ :: rest) QC f L := by
  intro w H
  obtain ⟨i, hi, _⟩ := h.at_
  exact o_ldB1 hT.h H i hi hx hv (hn w H) hd
theorem s_ldBA {q : Nat} [hT : CA P t q] {b o : Nat} {u : α} (hx : ev f x = .pointer (some ⟨b, o, none⟩)) [h : PcB L b (var (I := I) e b u) put] (hq : o + q ≤ I.sz)
    (hn : sO P n w0 f0 ops m rest QC (up f d (.agg (((I.enc u).drop o).take q).toArray)) L) (hd : Nat.blt d n = true := by rfl) : sO P n w0 f0 ops m (⟨some d, .load t x, ty, pos, after, none⟩ :: rest) QC f L := by
  intro w H
  obtain ⟨i, hi, _⟩ := h.at_
  exact o_ldBA hT.h H i hi hx (by rw [I.len]; exact hq) (hn w H) hd
theorem s_ldBW {q : Nat} [hT : CA P t q] {b : Nat} {u : α} (hx : ev f x = .pointer (some ⟨b, 0, none⟩)) [h : PcB L b (var (I := I) e b u) put] (hq : q = I.sz)
    (hn : sO P n w0 f0 ops m rest QC (up f d (.agg (I.enc u).toArray)) L) (hd : Nat.blt d n = true := by rfl) : sO P n w0 f0 ops m (⟨some d, .load t x, ty, pos, after, none⟩ :: rest) QC f L := by
  intro w H
  obtain ⟨i, hi, _⟩ := h.at_
  refine o_ldBA hT.h H i hi hx (by rw [I.len]; omega) ?_ hd
  rw [List.drop_zero, List.take_of_length_le (by rw [I.len]; omega)]
  exact hn w H
theorem s_ldRB [hT : C1 P t] {b o : Nat} {u : α} (hx : ev f x = .pointer (some ⟨b, o, none⟩)) [h : RdB (I := I) (okOf w0 f0) w0 b u] {v : Value} (hv : (I.enc u)[o]? = some v)
    (hn : sO P n w0 f0 ops m rest QC (up f d v) L) (hd : Nat.blt d n = true := by rfl) : sO P n w0 f0 ops m (⟨some d, .load t x, ty, pos, after, none⟩ :: rest) QC f L :=
  fun w H => o_ldS1 hT.h H h.h o (by rw [hx, add_spot rfl, Nat.zero_add]) hv (hn w H) hd
theorem s_ldRBA {q : Nat} [hT : CA P t q] {b o : Nat} {u : α} (hx : ev f x = .pointer (some ⟨b, o, none⟩)) [h : RdB (I := I) (okOf w0 f0) w0 b u] (hq : o + q ≤ I.sz)
    (hn : sO P n w0 f0 ops m rest QC (up f d (.agg (((I.enc u).drop o).take q).toArray)) L) (hd : Nat.blt d n = true := by rfl) : sO P n w0 f0 ops m (⟨some d, .load t x, ty, pos, after, none⟩ :: rest) QC f L :=
  fun w H => o_ldSA hT.h H h.h o (by rw [hx, add_spot rfl, Nat.zero_add]) (by rw [I.len]; exact hq) (hn w H) hd
end
end Go.Proofs.Ytfplmdjlgjgbgaa
