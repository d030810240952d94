/- More rules: literals of structs, structs compared, views written, lengths of maps, arithmetic. -/
import Derived.Test.YtfplmdjlgjgbgaaK8
import Derived.Laws.Tables
namespace Go.Proofs.Ytfplmdjlgjgbgaa
set_option linter.unusedVariables false
set_option linter.unusedSimpArgs false
open Go Go.RowKit

theorem okOf_step {w w' : World} (h : Step w (fun _ => False) w') : ∀ b, okOf w (fun _ => False) b → okOf w' (fun _ => False) b ∧ w'.heap[b]? = w.heap[b]? :=
  fun b hb => ⟨⟨Nat.lt_of_lt_of_le hb.1 h.size, id⟩, h.keep b hb.1 id⟩
theorem St.cells {w0 w : World} {f0 : FP} {L : List HP} (H : St w0 f0 L w) (i : Nat) {b : Nat} {t : TypeId} {cs : List Value} (hi : L[i]? = some (blk b t cs)) : Cells (okOf w fun _ => False) w ⟨b, 0, none⟩ cs := by
  obtain ⟨f1, hA, _, _⟩ := H.focus i hi
  exact ⟨⟨(blk b t cs).dom hA b ((hA.1 b).2 rfl), id⟩, fun j v hj => by rw [add_spot rfl]; exact (blk.cell hA (0 + j)).trans (by rw [Nat.zero_add]; exact hj)⟩
theorem St.rdR {w0 w : World} {f0 : FP} {L : List HP} (H : St w0 f0 L w) (i : Nat) {A : Option Addr} {n c : Nat} {e : TypeId} {sz : Nat} {cs : List Value} (hi : L[i]? = some (row A n c e sz cs)) : RdS (okOf w fun _ => False) w A n c sz cs := by
  obtain ⟨f1, hA, _, _⟩ := H.focus i hi
  exact row.rd hA fun b hb => ⟨(row A n c e sz cs).dom hA b hb, id⟩
theorem St.rdM {w0 w : World} {f0 : FP} {L : List HP} (H : St w0 f0 L w) (i : Nat) {P : Program} {e kt : TypeId} {α : Type} {E : EK P e α} {b n : Nat} {F : Int → Option α} (hi : L[i]? = some (mp E kt b n F)) : RdM E kt (okOf w fun _ => False) w (some b) n F := by
  obtain ⟨f1, hA, _, _⟩ := H.focus i hi
  exact .inr ⟨b, rfl, ⟨hA.2.lt, id⟩, hA.2⟩

theorem St.goodM {w0 w : World} {f0 : FP} {L : List HP} (H : St w0 f0 L w) (i : Nat) {P : Program} {e kt : TypeId} {α : Type} {E : EK P e α} {b n : Nat} {F : Int → Option α} (hi : L[i]? = some (mp E kt b n F)) (k : Int) : E.good ((F k).getD E.zero) := by
  obtain ⟨f1, ⟨_, D, _, _, hg, _⟩, _⟩ := H.focus i hi
  cases h : F k with
  | none => exact E.gz
  | some x => exact hg k x h

section
variable {P : Program} {n : Nat} {md : Bool} {ops : Array Oper} {rest : List Oper} {f : Fr} {w w0 : World} {Q : Fr → World → Prop} {f0 : FP} {L : List HP}
variable {d : Tmp} {x y z u : Operand} {ty t : TypeId} {pos : String} {after : Array Edge}
variable {A : Option Addr} {l c sz bytes : Nat} {e : TypeId} {zv : Value} {cs : List Value}

theorem o_build {l : List (Nat × Operand)} {pv : List (Nat × Value)} {cells : List Value} (hv : l.map (fun p => (p.1, ev f p.2)) = pv) (hb : P.built t pv = some cells.toArray) (h : wO P ops n md rest Q (up f d (.agg cells.toArray)) w) (hd : Nat.blt d n = true := by rfl) :
    wO P ops n md (⟨some d, .build t l.toArray, ty, pos, after, none⟩ :: rest) Q f w := by
  refine o_pure (v := .agg cells.toArray) rfl hd ?_ h
  have hpa : (l.toArray.map fun (i, x) => (i, ev f x)).toList = pv := by rw [← hv]; simp
  have := run_build (P := P) w t (l.toArray.map fun (i, x) => (i, ev f x)) cells.toArray (by rw [hpa]; exact hb)
  simp only [execOp, Sem.run_bind]
  rw [this]; rfl

theorem o_neqA {xs ys : List Value} {yt : TypeId} (r : Bool) (hg : P.eqGuardType P.depth t = false) (hx : ev f x = .agg xs.toArray) (hy : ev f y = .agg ys.toArray) (hr : ∀ w, (Op.equalIn 10000 t (.agg xs.toArray) (.agg ys.toArray)).run P w = .ok r w)
    (h : wO P ops n md rest Q (up f d (.bool (!r))) w) (hd : Nat.blt d n = true := by rfl) : wO P ops n md (⟨some d, .binOp .neq t x y yt, ty, pos, after, none⟩ :: rest) Q f w := by
  refine o_pure (v := .bool (!r)) rfl hd ?_ h
  show (Sem.run P (do pure (Next.value (← (do eqGuard .neq t x y (ev f x) (ev f y); binOp .neq t (ev f x) (ev f y))))) w) = _
  rw [hx, hy]
  simp only [Sem.run_bind, run_eqGuard_agg w .neq t x y xs.toArray ys.toArray hg, run_neq_struct, Result.andThen_ok, hr]
  rfl
theorem o_eqlA {xs ys : List Value} {yt : TypeId} (r : Bool) (hg : P.eqGuardType P.depth t = false) (hx : ev f x = .agg xs.toArray) (hy : ev f y = .agg ys.toArray) (hr : ∀ w, (Op.equalIn 10000 t (.agg xs.toArray) (.agg ys.toArray)).run P w = .ok r w)
    (h : wO P ops n md rest Q (up f d (.bool r)) w) (hd : Nat.blt d n = true := by rfl) : wO P ops n md (⟨some d, .binOp .eql t x y yt, ty, pos, after, none⟩ :: rest) Q f w := by
  refine o_pure (v := .bool r) rfl hd ?_ h
  show (Sem.run P (do pure (Next.value (← (do eqGuard .eql t x y (ev f x) (ev f y); binOp .eql t (ev f x) (ev f y))))) w) = _
  rw [hx, hy]
  simp only [Sem.run_bind, run_eqGuard_agg w .eql t x y xs.toArray ys.toArray hg, run_eql_struct, Result.andThen_ok, hr]
  rfl

/-- One cell of a struct's value. -/
theorem part1 (hT : T1 P t) {cs : Array Value} {o : Nat} {v : Value} (hv : cs[o]? = some v) (w : World) : (part t cs o).run P w = .ok v w := by
  simp [part, hT.ag, hv]

theorem o_mul {k : IntKind} {a b : Int} {yt : TypeId} (hx : ev f x = .int k a) (hy : ev f y = .int k b) (h : wO P ops n md rest Q (up f d (.int k (k.wrap (a * b)))) w) (hd : Nat.blt d n = true := by rfl) :
    wO P ops n md (⟨some d, .binOp .mul t x y yt, ty, pos, after, none⟩ :: rest) Q f w := o_bin hx hy (by cases k <;> rfl) h hd
theorem o_mul64 {a b : Int} {yt : TypeId} (hx : ev f x = .int .i64 a) (hy : ev f y = .int .i64 b) (hr : -9223372036854775808 ≤ a * b ∧ a * b ≤ 9223372036854775807) (h : wO P ops n md rest Q (up f d (.int .i64 (a * b))) w) (hd : Nat.blt d n = true := by rfl) :
    wO P ops n md (⟨some d, .binOp .mul t x y yt, ty, pos, after, none⟩ :: rest) Q f w := o_mul hx hy (by rw [i64_in _ hr]; exact h) hd
theorem o_rem {k : IntKind} {a b : Int} {yt : TypeId} (hx : ev f x = .int k a) (hy : ev f y = .int k b) (hb : b ≠ 0) (h : wO P ops n md rest Q (up f d (.int k (a.tmod b))) w) (hd : Nat.blt d n = true := by rfl) :
    wO P ops n md (⟨some d, .binOp .rem t x y yt, ty, pos, after, none⟩ :: rest) Q f w := o_bin hx hy (by simp [binOp, Op.intDiv, hb]) h hd
theorem o_quo {k : IntKind} {a b : Int} {yt : TypeId} (hx : ev f x = .int k a) (hy : ev f y = .int k b) (hb : b ≠ 0) (h : wO P ops n md rest Q (up f d (.int k (k.wrap (a.tdiv b)))) w) (hd : Nat.blt d n = true := by rfl) :
    wO P ops n md (⟨some d, .binOp .quo t x y yt, ty, pos, after, none⟩ :: rest) Q f w := o_bin hx hy (by simp [binOp, Op.intDiv, hb]) h hd
theorem o_and {k : IntKind} {a b : Int} {yt : TypeId} (hx : ev f x = .int k a) (hy : ev f y = .int k b) (h : wO P ops n md rest Q (up f d (.int k (k.wrap (BitVec.ofInt k.bits a &&& BitVec.ofInt k.bits b).toNat))) w) (hd : Nat.blt d n = true := by rfl) :
    wO P ops n md (⟨some d, .binOp .and t x y yt, ty, pos, after, none⟩ :: rest) Q f w := o_bin hx hy (by simp [binOp, Op.intBits]) h hd

theorem o_lenM {b N : Nat} {α : Type} {kt e : TypeId} {E : EK P e α} {F : Int → Option α} (ht : P.underlying t = some (.map kt e)) (H : St w0 f0 L w) (i : Nat) {es : Array MapEntry} {clock : Nat} (hi : L[i]? = some (mpz E kt b N F es clock)) (hx : ev f x = .map (some b)) (h : wO P ops n md rest Q (up f d (.int .i64 es.size)) w) (hd : Nat.blt d n = true := by rfl) :
    wO P ops n md (⟨some d, .call { callee := .builtin .len, args := #[x], argTypes := #[t] }, ty, pos, after, none⟩ :: rest) Q f w := by
  obtain ⟨f1, hA, _, _⟩ := H.focus i hi
  refine o_pure (v := .int .i64 es.size) rfl hd ?_ h
  simp [execOp, resolve, invoke, builtin, hx, Builtin.len_, run_underlying ht, goInt, Result.andThen, getObj, hA.2.1, Sem.run]

theorem o_cutLH (ht : P.underlying t = some (.slice e)) (hI : TI P e zv sz bytes) {k k' : IntKind} {i j : Int} (hx : ev f x = .slice A l c) (hy : ev f y = .int k i) (hz : ev f z = .int k' j) (h0 : 0 ≤ i) (h1 : i ≤ j) (h2 : j ≤ c)
    (h : wO P ops n md rest Q (up f d (.slice (if c = i.toNat then A else A.map (·.add (i.toNat * sz))) (j.toNat - i.toNat) (c - i.toNat))) w) (hd : Nat.blt d n = true := by rfl) : wO P ops n md (⟨some d, .slice t x (some y) (some z) none, ty, pos, after, none⟩ :: rest) Q f w := by
  refine o_pure rfl hd ?_ h
  have h3 : 0 ≤ j := by omega
  have h4 : i ≤ (j.toNat : Int) := by omega
  simp [execOp, hx, hy, hz, Instr.sliceAt, run_underlying ht, Instr.slice, Instr.sliceBounds, Instr.sliceBound, asIntOf, h0, h1, h2, h3, hI.size]
  intro hh; omega
theorem o_cut3 (ht : P.underlying t = some (.slice e)) (hI : TI P e zv sz bytes) {k k' k2 : IntKind} {i j m : Int} (hx : ev f x = .slice A l c) (hy : ev f y = .int k i) (hz : ev f z = .int k' j) (hu : ev f u = .int k2 m) (h0 : 0 ≤ i) (h1 : i ≤ j) (h2 : j ≤ m) (h2' : m ≤ c)
    (h : wO P ops n md rest Q (up f d (.slice (if m.toNat = i.toNat then A else A.map (·.add (i.toNat * sz))) (j.toNat - i.toNat) (m.toNat - i.toNat))) w) (hd : Nat.blt d n = true := by rfl) : wO P ops n md (⟨some d, .slice t x (some y) (some z) (some u), ty, pos, after, none⟩ :: rest) Q f w := by
  refine o_pure rfl hd ?_ h
  have h3 : 0 ≤ j := by omega
  have h4 : 0 ≤ m := by omega
  have h5 : j ≤ max m 0 := by omega
  have h6 : i ≤ max j 0 := by omega
  simp [execOp, hx, hy, hz, hu, Instr.sliceAt, run_underlying ht, Instr.slice, Instr.sliceBounds, Instr.sliceBound, asIntOf, h0, h1, h2, h2', h3, h4, h5, h6, hI.size]

/-- append(s[:i], s[j:]...): where the row lies. -/
theorem o_appIn (ht : P.underlying t = some (.slice e)) (hI : TI P e zv sz bytes) (H : St w0 f0 L w) (k : Nat) {a : Addr} (hk : L[k]? = some (row (some a) l c e sz cs)) (i j : Nat) (hij : i ≤ j) (hj : j ≤ l) (h1 : ∀ u ∈ cs, u.oneCell' = true)
    (hx : ev f x = .slice (some a) i c) (hy : ev f y = .slice (if c = j then some a else some (a.add (j * sz))) (l - j) (c - j))
    (h : ∀ w', St w0 f0 (L.set k (row (some a) l c e sz (lay cs (i * sz) (cs.drop (j * sz))))) w' → wO P ops n false rest Q (up f d (.slice (some a) (i + (l - j)) c)) w') (hd : Nat.blt d n = true := by rfl) :
    wO P ops n false (⟨some d, .call { callee := .builtin .append, args := #[x, y], argTypes := #[t, t] }, ty, pos, after, none⟩ :: rest) Q f w := by
  obtain ⟨f1, hA, _, hB⟩ := H.focus k hk
  have hA2 := row.cutL hA j hj
  have hlc := row.len hA
  have hs : Src P sz t (.slice (if c = j then some a else some (a.add (j * sz))) (l - j) (c - j)) (l - j) (cs.drop (j * sz)) w := by
    have := Src.row ht hA2 fun u hu => h1 u (List.mem_of_mem_drop hu)
    by_cases hcj : c = j
    · rw [if_pos hcj] at this ⊢; exact this
    · rw [if_neg hcj] at this ⊢; exact this
  have hfit : i * sz + (cs.drop (j * sz)).length ≤ cs.length := by
    have e1 : i * sz ≤ j * sz := Nat.mul_le_mul_right _ hij
    have e2 : j * sz ≤ l * sz := Nat.mul_le_mul_right _ hj
    rw [List.length_drop, hlc.1]; omega
  obtain ⟨w', hrun, hs', hst⟩ := row.put (P := P) hA (i * sz) (cs.drop (j * sz)) hfit fun u hu => h1 u (List.mem_of_mem_drop hu)
  have hroom : i + (l - j) ≤ c := by omega
  refine o_val (w' := w') (v := .slice (some a) (i + (l - j)) c) rfl hd ?_ (h w' (hB w' _ f1 hst hs' fun b hb => .inl hb))
  simp only [execOp, resolve, invoke, builtin, hx, hy]
  have hI2 := hI.size
  rcases hs.kind with ⟨e', hk⟩ | hk
  · simp [Builtin.append_, run_underlying ht, run_underlying hk, hI2, hs.len, hroom, hs.cells, hx, hy, hrun]
  · rw [ht] at hk; cases hk

/-- clear of a view. -/
theorem o_clearR {dd : Option Tmp} (ht : P.underlying t = some (.slice e)) (hI : TI P e zv sz bytes) (H : St w0 f0 L w) (k : Nat) {a : Addr} (hk : L[k]? = some (row (some a) l c e sz cs)) (i m : Nat) {mc : Nat} {V : Option Addr} (him : i + m ≤ l)
    (hx : ev f x = .slice V m mc) (hV : m = 0 ∨ V = some (a.add (i * sz))) (h1 : ∀ u ∈ zv.cells.toList, u.oneCell' = true)
    (h : ∀ w', St w0 f0 (L.set k (row (some a) l c e sz (lay cs (i * sz) (List.replicate m zv.cells.toList).flatten))) w' → wO P ops n false rest Q (upO f dd (.tuple #[])) w') (hd : dOk n dd = true := by rfl) :
    wO P ops n false (⟨dd, .call { callee := .builtin .clear, args := #[x], argTypes := #[t] }, ty, pos, after, none⟩ :: rest) Q f w := by
  obtain ⟨f1, hA, _, hB⟩ := H.focus k hk
  by_cases hm : m = 0
  · subst hm
    refine o_val (w' := w) (v := .tuple #[]) rfl hd ?_ (h w (hB w _ f1 (Step.refl _ _) ?_ fun b hb => .inl hb))
    · cases V <;> simp [execOp, resolve, invoke, builtin, hx, Builtin.clear_, run_underlying ht]
    · have : lay cs (i * sz) (List.replicate 0 zv.cells.toList).flatten = cs := by simp [lay]
      rw [this]; exact hA
  · obtain rfl := hV.resolve_left hm
    have hzl : (List.replicate m zv.cells.toList).flatten.length = m * sz := by simp [hI.zs]
    have hlc := row.len hA
    obtain ⟨w', hrun, hs', hst⟩ := row.put (P := P) hA (i * sz) (List.replicate m zv.cells.toList).flatten (by rw [hzl, hlc.1, ← Nat.add_mul]; exact Nat.mul_le_mul_right _ him) (by
      intro u hu
      obtain ⟨l', hl', hu'⟩ := List.mem_flatten.1 hu
      obtain rfl := List.eq_of_mem_replicate hl'
      exact h1 u hu')
    refine o_val (w' := w') (v := .tuple #[]) rfl hd ?_ (h w' (hB w' _ f1 hst hs' fun b hb => .inl hb))
    have hz : (Builtin.zeroCells zv.cells m).toList = (List.replicate m zv.cells.toList).flatten := (made_flat zv.cells m)
    obtain ⟨m', rfl⟩ : ∃ m', m = m' + 1 := ⟨m - 1, by omega⟩
    simp [execOp, resolve, invoke, builtin, hx, Builtin.clear_, run_underlying ht, hI.zero, hz, hrun]
end
end Go.Proofs.Ytfplmdjlgjgbgaa
