/- The operations on rows, at the walk's rules. -/
import Derived.Test.YtfplmdjlgjgbgaaK5
namespace Go.Proofs.Ytfplmdjlgjgbgaa
set_option linter.unusedVariables false
set_option linter.unusedSimpArgs false
open Go Go.RowKit

theorem Src.row {P : Program} {w : World} {A : Option Addr} {n c sz : Nat} {e e' tx : TypeId} {cs : List Value} {f : FP} (hk : P.underlying tx = some (.slice e')) (h : (row A n c e sz cs).sat w f) (h1 : ∀ u ∈ cs, u.oneCell' = true) : Src P sz tx (.slice A n c) n cs w := by
  cases A with
  | none =>
    obtain ⟨k0, k1, k2, rfl, k4⟩ := h
    obtain rfl : n = 0 := by omega
    obtain rfl : cs = [] := List.eq_nil_of_length_eq_zero (by simpa using k0)
    exact Src.ofNil w hk 0
  | some a => exact Src.ofSlice w hk a n c cs h.1 (fun j v hj => row.cell h hj) h1
theorem Src.rd {P : Program} {w : World} {A : Option Addr} {n c sz : Nat} {e' tx : TypeId} {cs : List Value} {ok : FP} (hk : P.underlying tx = some (.slice e')) (h : RdS ok w A n c sz cs) (h1 : ∀ u ∈ cs, u.oneCell' = true) : Src P sz tx (.slice A n c) n cs w := by
  obtain ⟨k0, k1, k2, k3⟩ := h
  rcases k3 with rfl | ⟨a, rfl, hc⟩
  · obtain rfl : cs = [] := List.eq_nil_of_length_eq_zero (by simpa using k0)
    cases A with
    | none => exact ⟨.inl ⟨e', hk⟩, fun _ => rfl, by simp [Builtin.firstCells], by simp [Builtin.firstCells], by simp, fun _ h => by cases h⟩
    | some a => exact Src.ofSlice w hk a 0 c [] (by simp) (fun j v hj => by simp at hj) (fun _ h => by cases h)
  · exact Src.ofSlice w hk a n c cs k0 hc.2 h1

theorem St.addNil {w0 w : World} {f0 : FP} {L : List HP} (H : St w0 f0 L w) (e : TypeId) (sz : Nat) : St w0 f0 (L ++ [row none 0 0 e sz []]) w :=
  H.add _ (Step.refl _ _) (g := fun _ => False) ⟨by simp, Nat.le_refl _, Nat.zero_le _, rfl, fun _ h => h⟩ fun _ h => h.elim

section
variable {P : Program} {n : Nat} {md : Bool} {ops : Array Oper} {rest : List Oper} {f : Fr} {w w0 : World} {Q : Fr → World → Prop} {f0 : FP} {L : List HP}
variable {d : Tmp} {x y z : Operand} {ty t : TypeId} {pos : String} {after : Array Edge}
variable {A : Option Addr} {l c sz bytes : Nat} {e : TypeId} {zv : Value} {cs : List Value}

theorem o_idxR (ht : P.underlying t = some (.slice e)) (hI : TI P e zv sz bytes) (H : St w0 f0 L w) (i : Nat) {e' : TypeId} (hi : L[i]? = some (row A l c e' sz cs)) {k : IntKind} {j : Int} (hx : ev f x = .slice A l c) (hy : ev f y = .int k j) (h0 : 0 ≤ j) (h1 : j < l)
    (h : ∀ a, A = some a → a.spot = none → wO P ops n md rest Q (up f d (.pointer (some (a.add (j.toNat * sz))))) w) (hd : Nat.blt d n = true := by rfl) : wO P ops n md (⟨some d, .indexAddr t x y, ty, pos, after, none⟩ :: rest) Q f w := by
  obtain ⟨f1, hA, _, _⟩ := H.focus i hi
  obtain ⟨a, rfl, hs⟩ := row.adr hA (by omega)
  exact o_idx ht hI.size hx hy h0 h1 (h a rfl hs) hd

theorem o_idxS (ht : P.underlying t = some (.slice e)) (hI : TI P e zv sz bytes) {ok : FP} {wr : World} (hR : RdS ok wr A l c sz cs) {k : IntKind} {j : Int} (hx : ev f x = .slice A l c) (hy : ev f y = .int k j) (h0 : 0 ≤ j) (h1 : j < l)
    (h : ∀ a, A = some a → Cells ok wr a cs → wO P ops n md rest Q (up f d (.pointer (some (a.add (j.toNat * sz))))) w) (hd : Nat.blt d n = true := by rfl) : wO P ops n md (⟨some d, .indexAddr t x y, ty, pos, after, none⟩ :: rest) Q f w := by
  rcases hR.2.2.2 with h2 | ⟨a, rfl, hC⟩
  · omega
  · exact o_idx ht hI.size hx hy h0 h1 (h a rfl hC) hd

theorem o_ldR1 {a : Addr} {e' : TypeId} (hT : T1 P t) (H : St w0 f0 L w) (i : Nat) (hi : L[i]? = some (row (some a) l c e' sz cs)) (j : Nat) {v : Value} (hx : ev f x = .pointer (some (a.add j))) (hv : cs[j]? = some v)
    (h : wO P ops n md rest Q (up f d v) w) (hd : Nat.blt d n = true := by rfl) : wO P ops n md (⟨some d, .load t x, ty, pos, after, none⟩ :: rest) Q f w := by
  obtain ⟨f1, hA, _, _⟩ := H.focus i hi
  exact o_load hx (ld1 hT (row.cell hA hv)) h hd
theorem o_ldRA {a : Addr} {m : Nat} {e' : TypeId} (hT : TA P t m) (H : St w0 f0 L w) (i : Nat) (hi : L[i]? = some (row (some a) l c e' sz cs)) (j : Nat) (hx : ev f x = .pointer (some (a.add j))) (hj : j + m ≤ cs.length)
    (h : wO P ops n md rest Q (up f d (.agg ((cs.drop j).take m).toArray)) w) (hd : Nat.blt d n = true := by rfl) : wO P ops n md (⟨some d, .load t x, ty, pos, after, none⟩ :: rest) Q f w := by
  obtain ⟨f1, hA, _, _⟩ := H.focus i hi
  refine o_load hx (ldA hT (by simp; omega) fun k v hk => ?_) h hd
  have hkm : k < m := by
    have := (List.getElem?_eq_some_iff.1 hk).1
    simp at this; omega
  rw [List.getElem?_take_of_lt hkm, List.getElem?_drop] at hk
  rw [add_add']
  exact row.cell hA hk

theorem o_stR {a : Addr} {v : Value} {e' : TypeId} (hz : ∀ w, (sizeOf t).run P w = .ok v.cells.size w) (H : St w0 f0 L w) (i : Nat) (hi : L[i]? = some (row (some a) l c e' sz cs)) (j : Nat) (hx : ev f x = .pointer (some (a.add j))) (hy : ev f y = v)
    (ho : j + v.cells.toList.length ≤ cs.length) (h1 : ∀ u ∈ v.cells.toList, u.oneCell' = true) (h : ∀ w', St w0 f0 (L.set i (row (some a) l c e' sz (lay cs j v.cells.toList))) w' → wO P ops n false rest Q f w') :
    wO P ops n false (⟨none, .store t x y, ty, pos, after, none⟩ :: rest) Q f w := by
  obtain ⟨f1, hA, _, hB⟩ := H.focus i hi
  obtain ⟨w', hrun, hs, hst⟩ := row.put (P := P) hA j v.cells.toList ho h1
  refine o_skp (w' := w') rfl rfl ?_ (h w' (hB w' _ f1 hst hs fun b hb => .inl hb))
  simp [execOp, hx, hy, Instr.storeAt, Instr.sureAddr, storeVar, hz, hrun]

theorem o_app (ht : P.underlying t = some (.slice e)) (hI : TI P e zv sz bytes) (H : St w0 f0 L w) (i : Nat) (hi : L[i]? = some (row A l c e sz cs)) (hx : ev f x = .slice A l c) {tx : TypeId} {m : Nat} {news : List Value} (hs : Src P sz tx (ev f y) m news w)
    (hb : (l + m) * bytes ≤ 140737488355328) (h : ∀ A' c' w', St w0 f0 (L.set i (row A' (l + m) c' e sz (cs ++ news))) w' → wO P ops n false rest Q (up f d (.slice A' (l + m) c')) w') (hd : Nat.blt d n = true := by rfl) :
    wO P ops n false (⟨some d, .call { callee := .builtin .append, args := #[x, y], argTypes := #[t, tx] }, ty, pos, after, none⟩ :: rest) Q f w := by
  obtain ⟨f1, hA, _, hB⟩ := H.focus i hi
  obtain ⟨A', c', w', g, hrun, hs', hst, hg⟩ := row.app (ty := ty) ht hI hA hs hb
  refine o_val (w' := w') (v := .slice A' (l + m) c') rfl hd ?_ (h A' c' w' (hB w' _ g hst hs' hg))
  simp [execOp, resolve, invoke, builtin, hx, hrun]

/-- append of a row that is there, too. -/
theorem o_appR (ht : P.underlying t = some (.slice e)) (hI : TI P e zv sz bytes) (H : St w0 f0 L w) (i k : Nat) (hi : L[i]? = some (row A l c e sz cs)) {A2 : Option Addr} {l2 c2 : Nat} {e2 : TypeId} {cs2 : List Value} (hk : L[k]? = some (row A2 l2 c2 e2 sz cs2))
    (hx : ev f x = .slice A l c) (hy : ev f y = .slice A2 l2 c2) (h1 : ∀ u ∈ cs2, u.oneCell' = true) (hb : (l + l2) * bytes ≤ 140737488355328)
    (h : ∀ A' c' w', St w0 f0 (L.set i (row A' (l + l2) c' e sz (cs ++ cs2))) w' → wO P ops n false rest Q (up f d (.slice A' (l + l2) c')) w') (hd : Nat.blt d n = true := by rfl) :
    wO P ops n false (⟨some d, .call { callee := .builtin .append, args := #[x, y], argTypes := #[t, t] }, ty, pos, after, none⟩ :: rest) Q f w := by
  obtain ⟨f1, hA, _, _⟩ := H.focus k hk
  exact o_app ht hI H i hi hx (by rw [hy]; exact Src.row ht hA h1) hb h hd
/-- append of what is only read. -/
theorem o_appS (ht : P.underlying t = some (.slice e)) (hI : TI P e zv sz bytes) (H : St w0 f0 L w) (i : Nat) (hi : L[i]? = some (row A l c e sz cs)) {A2 : Option Addr} {l2 c2 : Nat} {cs2 : List Value} (hk : RdS (okOf w0 f0) w0 A2 l2 c2 sz cs2)
    (hx : ev f x = .slice A l c) (hy : ev f y = .slice A2 l2 c2) (h1 : ∀ u ∈ cs2, u.oneCell' = true) (hb : (l + l2) * bytes ≤ 140737488355328)
    (h : ∀ A' c' w', St w0 f0 (L.set i (row A' (l + l2) c' e sz (cs ++ cs2))) w' → wO P ops n false rest Q (up f d (.slice A' (l + l2) c')) w') (hd : Nat.blt d n = true := by rfl) :
    wO P ops n false (⟨some d, .call { callee := .builtin .append, args := #[x, y], argTypes := #[t, t] }, ty, pos, after, none⟩ :: rest) Q f w :=
  o_app ht hI H i hi hx (by rw [hy]; exact Src.rd ht (hk.loc H.ok0) h1) hb h hd

/-- A literal: a new row. -/
theorem o_lit {len : Nat} {l : List (Nat × Operand)} {pv : List (Nat × Value)} {cells : List Value} (ht : P.underlying t = some (.slice e)) (hI : TI P e zv sz bytes) (hl : len * sz ≤ 16777216) (hv : l.map (fun p => (p.1, ev f p.2)) = pv)
    (hfit : ∀ p ∈ pv, p.1 < len ∧ p.2.cells.size = sz) (hc : pv.foldl (fun cs p => lay cs (p.1 * sz) p.2.cells.toList) (List.replicate len zv.cells.toList).flatten = cells) (H : St w0 f0 L w)
    (h : ∀ b w', St w0 f0 (L ++ [row (some ⟨b, 0, none⟩) len len e sz cells]) w' → wO P ops n false rest Q (up f d (.slice (some ⟨b, 0, none⟩) len len)) w') (hd : Nat.blt d n = true := by rfl) :
    wO P ops n false (⟨some d, .buildSlice t len l.toArray, ty, pos, after, none⟩ :: rest) Q f w := by
  have hzl : (List.replicate len zv.cells.toList).flatten.length = len * sz := by simp [hI.zs]
  have hlen : ∀ (l : List (Nat × Value)) (cs : List Value), (∀ p ∈ l, p.1 < len ∧ p.2.cells.size = sz) → cs.length = len * sz → (l.foldl (fun cs p => lay cs (p.1 * sz) p.2.cells.toList) cs).length = len * sz := by
    intro l
    induction l with
    | nil => intro cs _ h; exact h
    | cons p l ih =>
      intro cs hp h
      refine ih _ (fun q hq => hp q (by simp [hq])) ?_
      obtain ⟨h1, h2⟩ := hp p (by simp)
      have : (p.1 + 1) * sz ≤ len * sz := Nat.mul_le_mul_right _ h1
      rw [Nat.add_mul] at this
      simp [lay, h2]; omega
  have hcl : cells.length = len * sz := by rw [← hc]; exact hlen pv _ hfit hzl
  have hm : len ≤ maxLen := by
    have : len ≤ len * sz := Nat.le_mul_of_pos_right _ hI.pos
    simp only [maxLen]; omega
  have hfill := fill_lay (fun i => some (i * sz, sz)) (fun i => i * sz) pv (List.replicate len zv.cells.toList).flatten fun p hp => by
    obtain ⟨h1, h2⟩ := hfit p hp
    have : (p.1 + 1) * sz ≤ len * sz := Nat.mul_le_mul_right _ h1
    rw [Nat.add_mul] at this
    refine ⟨by rw [h2], ?_⟩
    rw [hzl, Array.length_toList, h2]; omega
  rw [hc] at hfill
  have hz : (List.replicate len zv.cells.toList).flatten.toArray = (Array.range (len * sz)).map (zv.cells[· % zv.cells.size]!) := by
    apply Array.ext'
    rw [← made_flat, ← hI.zs]; rfl
  rw [hz] at hfill
  refine o_val (w' := w.alloc (.cells cells.toArray e)) (v := .slice (some ⟨w.heap.size, 0, none⟩) len len) rfl hd ?_ (h w.heap.size _ (H.add _ (Step.alloc _ _ _) (g := fun x => x = w.heap.size) ⟨hcl, Nat.le_refl _, hm, rfl, fun _ => Iff.rfl, cells.toArray, heap_alloc_new w _, by simp [hcl], ?_⟩ fun b hb => Nat.le_of_eq hb.symm))
  · have h1 : ¬ (16777216 < len * sz) := by omega
    have hpa : (l.toArray.map fun (i, x) => (i, ev f x)).toList = pv := by rw [← hv]; simp
    by_cases h0 : len * sz = 0
    · have hl0 : len = 0 := by
        rcases Nat.mul_eq_zero.1 h0 with h | h
        · exact h
        · have := hI.pos; omega
      have hp0 : pv = [] := by
        cases pv with
        | nil => rfl
        | cons p _ => have := (hfit p (by simp)).1; omega
      have hl00 : l = [] := by
        rw [hp0] at hv
        simpa using hv
      subst hl00
      have hce : cells = [] := List.eq_nil_of_length_eq_zero (by rw [hcl, h0])
      subst hce
      have hr0 : Array.range 0 = #[] := rfl
      simp [execOp, Instr.buildSlice, run_underlying ht, hI.size, h0, newRow, Instr.fill, hr0]
    · have := congrArg (fun (l : List (Nat × Value)) => Instr.fill (fun i => some (i * sz, sz)) ((Array.range (len * sz)).map (zv.cells[· % zv.cells.size]!)) l) hpa
      simp only [hfill] at this
      simp [execOp, Instr.buildSlice, run_underlying ht, hI.size, hI.zero, h1, h0, newRow]
      simp at this
      simp [this]
  · rw [List.drop_zero, List.take_of_length_le (by simp [hcl])]

/-- make([]T, m) -/
theorem o_make (ht : P.underlying t = some (.slice e)) (hI : TI P e zv sz bytes) {m : Nat} {k k' : IntKind} (hx : ev f x = .int k m) (hy : ev f y = .int k' m) (hb : m * bytes ≤ 281474976710656) (H : St w0 f0 L w)
    (h : ∀ b w', St w0 f0 (L ++ [row (some ⟨b, 0, none⟩) m m e sz (madeCells zv.cells (m * sz)).toList]) w' → wO P ops n false rest Q (up f d (.slice (some ⟨b, 0, none⟩) m m)) w') (hd : Nat.blt d n = true := by rfl) :
    wO P ops n false (⟨some d, .makeSlice t x y, ty, pos, after, none⟩ :: rest) Q f w := by
  obtain ⟨i, hi, hz0, hz1, hz2⟩ := hI.info
  subst hz1
  subst hz2
  have hm : m ≤ 281474976710656 := Nat.le_trans (Nat.le_mul_of_pos_right _ hI.posb) hb
  have hbi : (i.bytes : Int) * (m : Int) ≤ 281474976710656 := by
    have h1 : ((m * i.bytes : Nat) : Int) ≤ 281474976710656 := by omega
    rw [Int.natCast_mul, Int.mul_comm] at h1
    exact h1
  have hr := run_make (P := P) w t e i zv ht hi hz0 k k' m m (by omega) (Int.le_refl _) hbi (by omega)
  simp only [Int.toNat_natCast] at hr
  refine o_val (w' := w.alloc (.cells (madeCells zv.cells (m * i.size)) e)) (v := .slice (some ⟨w.heap.size, 0, none⟩) m m) rfl hd ?_ (h w.heap.size _ (H.add _ (Step.alloc _ _ _) (g := fun x => x = w.heap.size) ⟨?_, Nat.le_refl _, ?_, rfl, fun _ => Iff.rfl, _, heap_alloc_new w _, ?_, ?_⟩ fun b hb => Nat.le_of_eq hb.symm))
  · simp [execOp, hx, hy, hr]
  · rw [Array.length_toList, size_madeCells]
  · simp only [maxLen]; omega
  · rw [size_madeCells]; simp
  · rw [List.drop_zero, List.take_of_length_le]
    rw [Array.length_toList, size_madeCells]
    exact Nat.le_refl _

/-! cuts: the value -/
theorem o_cutL (ht : P.underlying t = some (.slice e)) (hI : TI P e zv sz bytes) {k : IntKind} {j : Int} (hx : ev f x = .slice A l c) (hy : ev f y = .int k j) (h0 : 0 ≤ j) (h1 : j ≤ l)
    (h : wO P ops n md rest Q (up f d (.slice (if c = j.toNat then A else A.map (·.add (j.toNat * sz))) (l - j.toNat) (c - j.toNat))) w) (hd : Nat.blt d n = true := by rfl) : wO P ops n md (⟨some d, .slice t x (some y) none none, ty, pos, after, none⟩ :: rest) Q f w := by
  refine o_pure rfl hd ?_ h
  have h1' : j ≤ (l : Int) := h1
  simp [execOp, hx, hy, Instr.sliceAt, run_underlying ht, Instr.slice, Instr.sliceBounds, Instr.sliceBound, asIntOf, h0, h1', hI.size]
theorem o_cutH (ht : P.underlying t = some (.slice e)) (hI : TI P e zv sz bytes) {k : IntKind} {j : Int} (hx : ev f x = .slice A l c) (hy : ev f y = .int k j) (h0 : 0 ≤ j) (h1 : j ≤ c)
    (h : wO P ops n md rest Q (up f d (.slice A j.toNat c)) w) (hd : Nat.blt d n = true := by rfl) : wO P ops n md (⟨some d, .slice t x none (some y) none, ty, pos, after, none⟩ :: rest) Q f w := by
  refine o_pure (v := .slice A j.toNat c) rfl hd ?_ h
  simp [execOp, hx, hy, Instr.sliceAt, run_underlying ht, Instr.slice, Instr.sliceBounds, Instr.sliceBound, asIntOf, h0, h1, hI.size]
  cases A <;> simp [add_zero']

/-- The row that is left of a cut. -/
theorem row.cutL {w : World} {g : FP} (h : (row A l c e sz cs).sat w g) (j : Nat) (hj : j ≤ l) : (row (if c = j then A else A.map (·.add (j * sz))) (l - j) (c - j) e sz (cs.drop (j * sz))).sat w g := by
  obtain ⟨k0, k1, k2, k3⟩ := h
  refine ⟨by rw [List.length_drop, k0, Nat.sub_mul], by omega, by omega, ?_⟩
  by_cases hcj : c = j
  · rw [if_pos hcj]
    cases A with
    | none => exact ⟨by omega, k3.2⟩
    | some a =>
      obtain ⟨ks, kf, cur, kh, kc, kt⟩ := k3
      have h1 : l - j = 0 := by omega
      refine ⟨ks, kf, cur, kh, by rw [hcj, Nat.sub_self]; omega, ?_⟩
      rw [h1, Nat.zero_mul, List.take_zero, List.drop_eq_nil_of_le]
      rw [k0]; exact Nat.mul_le_mul_right _ (by omega)
  · rw [if_neg hcj]
    cases A with
    | none => exact ⟨by have := k3.1; omega, k3.2⟩
    | some a =>
      obtain ⟨ks, kf, cur, kh, kc, kt⟩ := k3
      show (a.add (j * sz)).spot = none ∧ (∀ b, g b ↔ b = (a.add (j * sz)).block) ∧ ∃ cur, w.heap[(a.add (j * sz)).block]? = some (.cells cur e (0, 0)) ∧ (a.add (j * sz)).off + (c - j) * sz ≤ cur.size ∧ (cur.toList.drop (a.add (j * sz)).off).take ((l - j) * sz) = cs.drop (j * sz)
      rw [add_spot ks]
      refine ⟨rfl, kf, cur, kh, ?_, ?_⟩
      · show a.off + j * sz + (c - j) * sz ≤ cur.size
        rw [Nat.sub_mul]
        have : j * sz ≤ c * sz := Nat.mul_le_mul_right _ (by omega)
        omega
      · show ((cur.toList.drop (a.off + j * sz)).take ((l - j) * sz)) = _
        rw [← kt, List.drop_take, List.drop_drop, Nat.sub_mul]
theorem row.cutH {w : World} {g : FP} (h : (row A l c e sz cs).sat w g) (j : Nat) (hj : j ≤ l) : (row A j c e sz (cs.take (j * sz))).sat w g := by
  obtain ⟨k0, k1, k2, k3⟩ := h
  have hjl : j * sz ≤ l * sz := Nat.mul_le_mul_right _ hj
  refine ⟨by rw [List.length_take, k0]; omega, by omega, by omega, ?_⟩
  cases A with
  | none => exact k3
  | some a =>
    obtain ⟨ks, kf, cur, kh, kc, kt⟩ := k3
    exact ⟨ks, kf, cur, kh, kc, by rw [← kt, List.take_take, Nat.min_eq_left hjl]⟩
theorem St.turn (H : St w0 f0 L w) (i : Nat) {A A' : HP} (hi : L[i]? = some A) (h : ∀ g, A.sat w g → A'.sat w g) : St w0 f0 (L.set i A') w := by
  obtain ⟨f1, hA, _, hB⟩ := H.focus i hi
  exact hB w A' f1 (Step.refl _ _) (h _ hA) fun b hb => .inl hb

/-! calls -/
structure IsF (P : Program) (g : FuncId) (fn : Func) : Prop where
  here : P.funcs[g]? = some fn
  body : fn.body.isSome = true
  name : fn.name ≠ "runtime.NumGoroutine"

theorem o_callF {g : FuncId} {l : List Operand} {vs : List Value} {ats : Array TypeId} {R : Value → World → Prop} {fn : Func} (hF : IsF P g fn) (hv : l.map (ev f) = vs) (hc : CallsV P g vs.toArray w R)
    (h : ∀ v w', R v w' → wO P ops n false rest Q (up f d v) w') (hd : Nat.blt d n = true := by rfl) : wO P ops n false (⟨some d, .call { callee := .value (.func g), args := l.toArray, argTypes := ats }, ty, pos, after, none⟩ :: rest) Q f w := by
  subst hv
  refine o_call (w' := w) (g := g) (args := (l.map (ev f)).toArray) rfl hd ?_ hc h
  obtain ⟨c, hcc⟩ := Option.isSome_iff_exists.1 hF.body
  simp [execOp, resolve, invoke, ev, Deferred.ofValue, callFunc, hF.here, hcc, hF.name]
theorem o_callV {g : FuncId} {captured : List Value} {l : List Operand} {vs : List Value} {ats : Array TypeId} {R : Value → World → Prop} {fn : Func} (hx : ev f x = .func (.func g) #[] captured.toArray) (hF : IsF P g fn) (hv : l.map (ev f) = vs) (hc : CallsV P g (vs ++ captured).toArray w R)
    (h : ∀ v w', R v w' → wO P ops n false rest Q (up f d v) w') (hd : Nat.blt d n = true := by rfl) : wO P ops n false (⟨some d, .call { callee := .value x, args := l.toArray, argTypes := ats }, ty, pos, after, none⟩ :: rest) Q f w := by
  subst hv
  refine o_call (w' := w) (g := g) (args := (l.map (ev f) ++ captured).toArray) rfl hd ?_ hc h
  obtain ⟨c, hcc⟩ := Option.isSome_iff_exists.1 hF.body
  simp [execOp, resolve, invoke, hx, Deferred.ofValue, callFunc, hF.here, hcc, hF.name]
end
end Go.Proofs.Ytfplmdjlgjgbgaa
