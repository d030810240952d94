/- Rules for the operations that touch memory: blocks of cells, rows, what is only read. -/
import Derived.Test.YtfplmdjlgjgbgaaK3
import Derived.Deep.AppendSrc
import Derived.Laws.CopyRow
namespace Go.Proofs.Ytfplmdjlgjgbgaa
set_option linter.unusedVariables false
set_option linter.unusedSimpArgs false
open Go Go.RowKit

/-! ### types, as a program has them -/
structure T1 (P : Program) (t : TypeId) : Prop where
  ag : ∀ w, (isAgg t).run P w = .ok false w
  sz : ∀ w, (sizeOf t).run P w = .ok 1 w
structure TA (P : Program) (t : TypeId) (m : Nat) : Prop where
  ag : ∀ w, (isAgg t).run P w = .ok true w
  sz : ∀ w, (sizeOf t).run P w = .ok m w

theorem add_add' (a : Addr) (i j : Nat) : (a.add i).add j = a.add (i + j) := by
  unfold Addr.add
  by_cases hi : i = 0 <;> by_cases hj : j = 0 <;> simp_all <;> omega
theorem add_block (a : Addr) (i : Nat) : (a.add i).block = a.block := by unfold Addr.add; split <;> rfl
theorem add_zero' (a : Addr) : a.add 0 = a := rfl
theorem add_spot {a : Addr} (h : a.spot = none) (i : Nat) : a.add i = ⟨a.block, a.off + i, none⟩ := by
  obtain ⟨b, o, s⟩ := a
  subst h
  unfold Addr.add
  by_cases hi : i = 0 <;> simp_all

/-! ### a block -/
def blk (b : Nat) (t : TypeId) (cs : List Value) : HP where
  sat w f := (∀ x, f x ↔ x = b) ∧ w.heap[b]? = some (.cells cs.toArray t (0, 0))
  loc := fun ⟨h1, h2⟩ hk => ⟨h1, (hk b ((h1 b).2 rfl)).trans h2⟩
  dom := fun ⟨h1, h2⟩ x hx => by
    obtain rfl := (h1 x).1 hx
    exact (Array.getElem?_eq_some_iff.1 h2).1

/-! ### a row of the call's own -/
def row (A : Option Addr) (n c : Nat) (e : TypeId) (sz : Nat) (cs : List Value) : HP where
  sat w f := cs.length = n * sz ∧ n ≤ c ∧ c ≤ maxLen ∧ match A with
    | none => c = 0 ∧ ∀ b, ¬ f b
    | some a => a.spot = none ∧ (∀ b, f b ↔ b = a.block) ∧ ∃ cur : Array Value, w.heap[a.block]? = some (.cells cur e (0, 0)) ∧ a.off + c * sz ≤ cur.size ∧ (cur.toList.drop a.off).take (n * sz) = cs
  loc := fun {w w' f} ⟨h1, h2, h3, h4⟩ hk => ⟨h1, h2, h3, by
    cases A with
    | none => exact h4
    | some a =>
      obtain ⟨k1, k2, cur, k3, k4⟩ := h4
      exact ⟨k1, k2, cur, (hk _ ((k2 _).2 rfl)).trans k3, k4⟩⟩
  dom := fun {w f} ⟨h1, h2, h3, h4⟩ x hx => by
    cases A with
    | none => exact absurd hx (h4.2 x)
    | some a =>
      obtain ⟨k1, k2, cur, k3, k4⟩ := h4
      obtain rfl := (k2 x).1 hx
      exact (Array.getElem?_eq_some_iff.1 k3).1

/-! ### what is only read -/
def okOf (w : World) (f : FP) : FP := fun b => b < w.heap.size ∧ ¬ f b
def Cells (ok : FP) (w : World) (a : Addr) (cs : List Value) : Prop := ok a.block ∧ ∀ j v, cs[j]? = some v → w.cell? (a.add j) = some v
def RdS (ok : FP) (w : World) (A : Option Addr) (n c sz : Nat) (cs : List Value) : Prop :=
  cs.length = n * sz ∧ n ≤ c ∧ c ≤ maxLen ∧ (n = 0 ∨ ∃ a, A = some a ∧ Cells ok w a cs)

theorem Cells.loc {ok ok' : FP} {w w' : World} {a : Addr} {cs : List Value} (h : Cells ok w a cs) (hk : ∀ b, ok b → ok' b ∧ w'.heap[b]? = w.heap[b]?) : Cells ok' w' a cs :=
  ⟨(hk _ h.1).1, fun j v hj => (World.cell?_of_block (by rw [add_block]; exact (hk _ h.1).2)).trans (h.2 j v hj)⟩
theorem RdS.loc {ok ok' : FP} {w w' : World} {A : Option Addr} {n c sz : Nat} {cs : List Value} (h : RdS ok w A n c sz cs) (hk : ∀ b, ok b → ok' b ∧ w'.heap[b]? = w.heap[b]?) : RdS ok' w' A n c sz cs :=
  ⟨h.1, h.2.1, h.2.2.1, h.2.2.2.imp id fun ⟨a, e, h⟩ => ⟨a, e, h.loc hk⟩⟩

/-- What may be read at the beginning may be read now; and by who is called. -/
theorem St.ok {w0 w : World} {f0 : FP} {L : List HP} (h : St w0 f0 L w) {f1 : FP} (h1 : ∀ b, f1 b → f0 b ∨ w0.heap.size ≤ b) : ∀ b, okOf w0 f0 b → okOf w f1 b ∧ w.heap[b]? = w0.heap[b]? :=
  fun b ⟨hb, hn⟩ => ⟨⟨Nat.lt_of_lt_of_le hb h.step.size, fun hf => (h1 b hf).elim hn fun h' => absurd hb (Nat.not_lt.2 h')⟩, h.step.keep b hb hn⟩
theorem St.ok0 {w0 w : World} {f0 : FP} {L : List HP} (h : St w0 f0 L w) : ∀ b, okOf w0 f0 b → okOf w (fun _ => False) b ∧ w.heap[b]? = w0.heap[b]? := h.ok fun _ h => h.elim

theorem row.rd {A : Option Addr} {n c : Nat} {e : TypeId} {sz : Nat} {cs : List Value} {w : World} {f : FP} (h : (row A n c e sz cs).sat w f) {ok : FP} (hok : ∀ b, f b → ok b) : RdS ok w A n c sz cs := by
  obtain ⟨h1, h2, h3, h4⟩ := h
  refine ⟨h1, h2, h3, ?_⟩
  cases A with
  | none =>
    obtain ⟨rfl, _⟩ := h4
    exact .inl (by omega)
  | some a =>
    obtain ⟨k1, k2, cur, k3, k4, k5⟩ := h4
    refine .inr ⟨a, rfl, hok _ ((k2 _).2 rfl), fun j v hj => ?_⟩
    rw [add_spot k1]
    rw [← k5] at hj
    have hjl : j < n * sz := by
      rw [k5] at hj
      have := (List.getElem?_eq_some_iff.1 hj).1
      omega
    rw [List.getElem?_take_of_lt hjl, List.getElem?_drop] at hj
    simpa [World.cell?, k3] using hj

section
variable {P : Program} {n : Nat} {md : Bool} {ops : Array Oper} {rest : List Oper} {f : Fr} {w w0 : World} {Q : Fr → World → Prop} {f0 : FP} {L : List HP}
variable {d : Tmp} {x y z : Operand} {ty t : TypeId} {pos : String} {after : Array Edge}

theorem ld1 (h : T1 P t) {a : Addr} {v : Value} (hc : w.cell? a = some v) : (loadVar t a).run P w = .ok v w := by
  simp [loadVar, h.ag, hc]
theorem ldA {m : Nat} (h : TA P t m) {a : Addr} {cs : List Value} (hl : cs.length = m) (hc : ∀ j v, cs[j]? = some v → w.cell? (a.add j) = some v) : (loadVar t a).run P w = .ok (.agg cs.toArray) w := by
  subst hl
  simp [loadVar, h.ag, h.sz, run_loadCells_list w a cs hc]

theorem o_load {a : Addr} {v : Value} (hx : ev f x = .pointer (some a)) (hl : (loadVar t a).run P w = .ok v w) (h : wO P ops n md rest Q (up f d v) w) (hd : Nat.blt d n = true := by rfl) :
    wO P ops n md (⟨some d, .load t x, ty, pos, after, none⟩ :: rest) Q f w := by
  refine o_pure (v := v) rfl hd ?_ h
  simp [execOp, hx, Instr.loadAt, Instr.sureAddr, hl]

/-- A load of what is only read. -/
theorem o_ldS1 (hT : T1 P t) (H : St w0 f0 L w) {a : Addr} {cs : List Value} (hC : Cells (okOf w0 f0) w0 a cs) (j : Nat) {v : Value} (hx : ev f x = .pointer (some (a.add j))) (hv : cs[j]? = some v)
    (h : wO P ops n md rest Q (up f d v) w) (hd : Nat.blt d n = true := by rfl) : wO P ops n md (⟨some d, .load t x, ty, pos, after, none⟩ :: rest) Q f w :=
  o_load hx (ld1 hT ((hC.loc H.ok0).2 j v hv)) h hd
theorem o_ldSA {m : Nat} (hT : TA P t m) (H : St w0 f0 L w) {a : Addr} {cs : List Value} (hC : Cells (okOf w0 f0) w0 a cs) (j : Nat) (hx : ev f x = .pointer (some (a.add j))) (hj : j + m ≤ cs.length)
    (h : wO P ops n md rest Q (up f d (.agg ((cs.drop j).take m).toArray)) w) (hd : Nat.blt d n = true := by rfl) : wO P ops n md (⟨some d, .load t x, ty, pos, after, none⟩ :: rest) Q f w := by
  refine o_load hx (ldA hT (by simp; omega) fun i v hi => ?_) h hd
  rw [add_add']
  have him : i < m := by
    have := (List.getElem?_eq_some_iff.1 hi).1
    simp at this; omega
  rw [List.getElem?_take_of_lt him, List.getElem?_drop] at hi
  exact (hC.loc H.ok0).2 _ _ hi

/-- The address of an element. -/
theorem o_idx {e : TypeId} {sz : Nat} (ht : P.underlying t = some (.slice e)) (hz : ∀ w, (sizeOf e).run P w = .ok sz w) {a : Addr} {l c : Nat} {k : IntKind} {i : Int} (hx : ev f x = .slice (some a) l c) (hy : ev f y = .int k i) (h0 : 0 ≤ i) (h1 : i < l)
    (h : wO P ops n md rest Q (up f d (.pointer (some (a.add (i.toNat * sz))))) w) (hd : Nat.blt d n = true := by rfl) : wO P ops n md (⟨some d, .indexAddr t x y, ty, pos, after, none⟩ :: rest) Q f w := by
  refine o_pure (v := .pointer (some (a.add (i.toNat * sz)))) rfl hd ?_ h
  simp [execOp, hx, hy, Instr.indexAt, run_underlying ht, asIntOf, h0, h1, hz]

/-- The address of a field. -/
theorem o_fld {fs : Array Field} {fl : Field} {k m : Nat} (ht : P.underlying t = some (.struct fs)) (hf : fs[k]? = some fl) (hz : ∀ w, (sizeOf fl.type).run P w = .ok (m + 1) w) {a : Addr} (hx : ev f x = .pointer (some a))
    (h : wO P ops n md rest Q (up f d (.pointer (some (a.add fl.offset)))) w) (hd : Nat.blt d n = true := by rfl) : wO P ops n md (⟨some d, .fieldAddr t x k, ty, pos, after, none⟩ :: rest) Q f w := by
  refine o_pure (v := .pointer (some (a.add fl.offset))) rfl hd ?_ h
  simp [execOp, hx, Instr.fieldAt, run_underlying ht, hf, Instr.sureAddr, fieldPlace, hz]

/-! ### a block of the call's own: laid, read, written -/
theorem St.laid (H : St w0 f0 L w) (t : TypeId) (cs : List Value) : St w0 f0 (L ++ [blk w.heap.size t cs]) (w.alloc (.cells cs.toArray t)) :=
  H.add _ (Step.alloc _ _ _) (g := fun x => x = w.heap.size) ⟨fun _ => Iff.rfl, heap_alloc_new w _⟩ fun b hb => Nat.le_of_eq hb.symm

theorem o_alloc {zv : Value} (hz : ∀ w, (zeroValue t).run P w = .ok zv w) (H : St w0 f0 L w)
    (h : ∀ b w', St w0 f0 (L ++ [blk b t zv.cells.toList]) w' → wO P ops n false rest Q (up f d (.pointer (some ⟨b, 0, none⟩))) w') (hd : Nat.blt d n = true := by rfl) :
    wO P ops n false (⟨some d, .alloc t, ty, pos, after, none⟩ :: rest) Q f w := by
  refine o_val (w' := w.alloc (.cells zv.cells t)) (v := .pointer (some ⟨w.heap.size, 0, none⟩)) rfl hd ?_ (h _ _ (H.laid t zv.cells.toList))
  simp [execOp, Instr.alloc, hz, newVar, newRow]

theorem o_box {v : Value} (hx : ev f x = v) (H : St w0 f0 L w)
    (h : ∀ b w', St w0 f0 (L ++ [blk b t v.cells.toList]) w' → wO P ops n false rest Q (up f d (.pointer (some ⟨b, 0, none⟩))) w') (hd : Nat.blt d n = true := by rfl) :
    wO P ops n false (⟨some d, .box t x, ty, pos, after, none⟩ :: rest) Q f w := by
  refine o_val (w' := w.alloc (.cells v.cells t)) (v := .pointer (some ⟨w.heap.size, 0, none⟩)) rfl hd ?_ (h _ _ (H.laid t v.cells.toList))
  simp [execOp, Instr.box, hx, newVar, newRow]

theorem blk.cell {b : Nat} {t : TypeId} {cs : List Value} {w : World} {f : FP} (h : (blk b t cs).sat w f) (j : Nat) : w.cell? ⟨b, j, none⟩ = cs[j]? := by
  simp [World.cell?, h.2]

theorem o_ldB1 {b o : Nat} {tb : TypeId} {cs : List Value} {v : Value} (hT : T1 P t) (H : St w0 f0 L w) (i : Nat) (hi : L[i]? = some (blk b tb cs)) (hx : ev f x = .pointer (some ⟨b, o, none⟩)) (hv : cs[o]? = some v)
    (h : wO P ops n md rest Q (up f d v) w) (hd : Nat.blt d n = true := by rfl) : wO P ops n md (⟨some d, .load t x, ty, pos, after, none⟩ :: rest) Q f w := by
  obtain ⟨f1, hA, _, _⟩ := H.focus i hi
  exact o_load hx (ld1 hT ((blk.cell hA o).trans hv)) h hd
theorem o_ldBA {b o m : Nat} {tb : TypeId} {cs : List Value} (hT : TA P t m) (H : St w0 f0 L w) (i : Nat) (hi : L[i]? = some (blk b tb cs)) (hx : ev f x = .pointer (some ⟨b, o, none⟩)) (hv : o + m ≤ cs.length)
    (h : wO P ops n md rest Q (up f d (.agg ((cs.drop o).take m).toArray)) w) (hd : Nat.blt d n = true := by rfl) : wO P ops n md (⟨some d, .load t x, ty, pos, after, none⟩ :: rest) Q f w := by
  obtain ⟨f1, hA, _, _⟩ := H.focus i hi
  refine o_load hx (ldA hT (by simp; omega) fun j v hj => ?_) h hd
  have hjm : j < m := by
    have := (List.getElem?_eq_some_iff.1 hj).1
    simp at this; omega
  rw [List.getElem?_take_of_lt hjm, List.getElem?_drop] at hj
  rw [add_spot rfl]
  exact (blk.cell hA _).trans hj

/-- cells laid over others -/
def lay (cs : List Value) (o : Nat) (vs : List Value) : List Value := cs.take o ++ vs ++ cs.drop (o + vs.length)
theorem lay_one (cs : List Value) (o : Nat) (v : Value) (ho : o < cs.length) : lay cs o [v] = cs.set o v := by
  unfold lay
  rw [List.set_eq_take_append_cons_drop, if_pos ho]
  simp
theorem lay_all (cs vs : List Value) (h : vs.length = cs.length) : lay cs 0 vs = vs := by
  unfold lay
  rw [Nat.zero_add, h, List.drop_length]
  simp

theorem blk.put {b : Nat} {t : TypeId} {cs : List Value} {w : World} {f : FP} (h : (blk b t cs).sat w f) (o : Nat) (vs : List Value) (hl : o + vs.length ≤ cs.length) (h1 : ∀ v ∈ vs, v.oneCell' = true) :
    ∃ w', (storeCells ⟨b, o, none⟩ vs).run P w = .ok () w' ∧ (blk b t (lay cs o vs)).sat w' f ∧ Step w f w' := by
  refine ⟨_, run_storeCells_at P b o t vs 0 cs.toArray w h.2 (by simpa using hl) h1, ⟨h.1, ?_⟩, ?_⟩
  · have := setRow_heap w b cs.toArray (cs.toArray.toList.take (o + 0) ++ vs ++ cs.toArray.toList.drop (o + 0 + vs.length)).toArray t (0, 0) h.2
    simpa [lay] using this
  · have hs : ∀ (r : Array Value), Step w f (w.setRow b r) := fun r => ⟨rfl, rfl, rfl, by simp [World.setRow], fun x _ hn => by
      have : x ≠ b := fun e => hn ((h.1 x).2 e)
      simp [World.setRow, Array.getElem?_modify, Ne.symm this]⟩
    exact hs _

theorem o_stB {b o : Nat} {tb : TypeId} {cs : List Value} {v : Value} (hz : ∀ w, (sizeOf t).run P w = .ok v.cells.size w) (H : St w0 f0 L w) (i : Nat) (hi : L[i]? = some (blk b tb cs)) (hx : ev f x = .pointer (some ⟨b, o, none⟩)) (hy : ev f y = v)
    (ho : o + v.cells.toList.length ≤ cs.length) (h1 : ∀ u ∈ v.cells.toList, u.oneCell' = true) (h : ∀ w', St w0 f0 (L.set i (blk b tb (lay cs o v.cells.toList))) w' → wO P ops n false rest Q f w') :
    wO P ops n false (⟨none, .store t x y, ty, pos, after, none⟩ :: rest) Q f w := by
  obtain ⟨f1, hA, _, hB⟩ := H.focus i hi
  obtain ⟨w', hrun, hs, hst⟩ := blk.put (P := P) hA o v.cells.toList ho h1
  refine o_skp (w' := w') rfl rfl ?_ (h w' (hB w' _ f1 hst hs fun b hb => .inl hb))
  simp [execOp, hx, hy, Instr.storeAt, Instr.sureAddr, storeVar, hz, hrun]

end
end Go.Proofs.Ytfplmdjlgjgbgaa
