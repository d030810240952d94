/- Rows of rows: an element read, an element written. -/
import Derived.Test.YtfplmdjlgjgbgaaKy
namespace Go.Proofs.Ytfplmdjlgjgbgaa
set_option linter.unusedVariables false
set_option linter.unusedSimpArgs false
open Go Go.RowKit

section
variable {P : Program} {n : Nat} {md : Bool} {ops : Array Oper} {rest : List Oper} {f : Fr} {w w0 : World} {Q : Fr → World → Prop} {f0 : FP} {L : List HP}
variable {d : Tmp} {x y z : Operand} {ty t : TypeId} {pos : String} {after : Array Edge} {α : Type} {enc : α → Value} {e e' : TypeId} {hs : List (Hd α)} {q : Nat} {hd : Hd α}

/-- One whose test was itself not wanted. -/
theorem o_offU {m : Bool} {j : Nat} {want : Bool} {dst : Option Tmp} {op : Op} {type : TypeId} {d : Nat} (hj : (ops[j]?).bind (·.dst) = some d) (hb : f d = undef) (hd : dOk n dst = true) (hdn : Nat.blt d n = true)
    (h : wO P ops n m rest Q (upO f dst undef) w) : wO P ops n m (⟨dst, op, type, pos, after, some (j, want)⟩ :: rest) Q f w := by
  unfold wO at h ⊢
  intro a ha
  have hdn : d < n := by rw [← Nat.blt_eq]; exact hdn
  have hy : yielded ops a.tmps j = none := by
    unfold yielded
    rw [hj]
    simp [ha.at_ d hdn, hb, undef]
  have w1 : Region.wanted (⟨dst, op, type, pos, after, some (j, want)⟩ : Oper) (yielded ops a.tmps) = false := by simp [Region.wanted, hy]
  have h1 := h _ (ha.put hd undef)
  cases m with
  | false =>
    change wpList P ops _ _ a w
    unfold wpList
    rw [if_neg (by rw [w1]; simp)]
    exact h1
  | true =>
    change wpStill P ops w _ _ a
    unfold wpStill
    rw [if_neg (by rw [w1]; simp)]
    exact h1

theorem St.inner (H : St w0 f0 L w) (i : Nat) (hi : L[i]? = some (star (hs.map (hrow enc e)))) (hq : hs[q]? = some hd) : ∃ g, (hrow enc e hd).sat w g := by
  have := H.pull i hi q (R := hrow enc e hd) (by rw [List.getElem?_map, hq]; rfl)
  obtain ⟨f1, h, _⟩ := this.focus L.length (A := hrow enc e hd) (by rw [List.getElem?_append_right (by simp)]; simp)
  exact ⟨f1, h⟩

theorem o_idxM {zv : Value} {bytes : Nat} (ht : P.underlying t = some (.slice e')) (hI : TI P e' zv 1 bytes) (H : St w0 f0 L w) (i : Nat) (hi : L[i]? = some (star (hs.map (hrow enc e)))) (hq : hs[q]? = some hd) {k : IntKind} {j : Int} (hx : ev f x = hdv hd) (hy : ev f y = .int k j) (h0 : 0 ≤ j) (h1 : j < hd.2.length)
    (h : ∀ a, hd.1.1 = some a → wO P ops n md rest Q (up f d (.pointer (some (a.add (j.toNat * 1))))) w) (hdd : Nat.blt d n = true := by rfl) : wO P ops n md (⟨some d, .indexAddr t x y, ty, pos, after, none⟩ :: rest) Q f w := by
  obtain ⟨g, hg⟩ := H.inner i hi hq
  obtain ⟨a, ha, _⟩ := row.adr hg (by omega)
  exact o_idx ht hI.size (by rw [hx]; unfold hdv; rw [ha]) hy h0 h1 (h a ha) hdd

theorem o_ldM1 {a : Addr} {v : α} (hT : T1 P t) (H : St w0 f0 L w) (i : Nat) (hi : L[i]? = some (star (hs.map (hrow enc e)))) (hq : hs[q]? = some hd) (ha : hd.1.1 = some a) (j : Nat) (hx : ev f x = .pointer (some (a.add (j * 1)))) (hv : hd.2[j]? = some v)
    (h : wO P ops n md rest Q (up f d (enc v)) w) (hdd : Nat.blt d n = true := by rfl) : wO P ops n md (⟨some d, .load t x, ty, pos, after, none⟩ :: rest) Q f w := by
  obtain ⟨g, hg⟩ := H.inner i hi hq
  unfold hrow at hg
  rw [ha] at hg
  exact o_load hx (ld1 hT (row.cell hg (by rw [Nat.mul_one, List.getElem?_map, hv]; rfl))) h hdd

theorem o_stM {a : Addr} {v : α} (h1c : (enc v).cells = #[enc v]) (h1o : (enc v).oneCell' = true) (hz : ∀ w, (sizeOf t).run P w = .ok 1 w) (H : St w0 f0 L w) (i : Nat) (hi : L[i]? = some (star (hs.map (hrow enc e)))) (hq : hs[q]? = some hd) (ha : hd.1.1 = some a) (j : Nat) (hx : ev f x = .pointer (some (a.add (j * 1)))) (hy : ev f y = enc v)
    (hj : j < hd.2.length) (h : ∀ w', St w0 f0 (L.set i (star ((hs.set q (hd.1, hd.2.set j v)).map (hrow enc e)))) w' → wO P ops n false rest Q f w') :
    wO P ops n false (⟨none, .store t x y, ty, pos, after, none⟩ :: rest) Q f w := by
  have hql := (List.getElem?_eq_some_iff.1 hq).1
  have H2 := H.pull i hi q (R := hrow enc e hd) (by rw [List.getElem?_map, hq]; rfl)
  obtain ⟨f1, hA, _, hB⟩ := H2.focus L.length (A := hrow enc e hd) (by rw [List.getElem?_append_right (by simp)]; simp)
  have hA' := hA
  unfold hrow at hA'
  rw [ha] at hA'
  obtain ⟨w', hrun, hs', hst⟩ := row.put (P := P) hA' (j * 1) [enc v] (by simp; omega) (by simp [h1o])
  have e1 : lay (hd.2.map enc) (j * 1) [enc v] = (hd.2.set j v).map enc := by rw [Nat.mul_one, lay_one _ _ _ (by simpa using hj), List.map_set]
  rw [e1] at hs'
  have hs2 : (hrow enc e (hd.1, hd.2.set j v)).sat w' f1 := by
    unfold hrow
    simp only [List.length_set]
    rw [ha]; exact hs'
  have H3 := hB w' _ f1 hst hs2 fun b hb => .inl hb
  rw [List.set_append_right _ _ (by simp)] at H3
  simp only [List.length_set, Nat.sub_self, List.set_cons_zero] at H3
  have hil := (List.getElem?_eq_some_iff.1 hi).1
  have H4 := H3.push i q (Ls := hs.map (hrow enc e)) (by rw [List.getElem?_set_self hil]) (by simpa using hql)
  rw [List.set_set, ← List.map_set] at H4
  refine o_skp (w' := w') rfl rfl ?_ (h w' H4)
  rw [Nat.mul_one] at hrun hx
  simp [execOp, hx, hy, Instr.storeAt, Instr.sureAddr, storeVar, hz, h1c, hrun]
theorem hdv_set {hs : List (Hd α)} {q j : Nat} {hd : Hd α} {v : α} (hq : hs[q]? = some hd) : (hs.set q (hd.1, hd.2.set j v)).map hdv = hs.map hdv := by
  apply List.ext_getElem?
  intro k
  rw [List.getElem?_map, List.getElem?_map]
  by_cases e : k = q
  · subst e
    rw [List.getElem?_set_self (List.getElem?_eq_some_iff.1 hq).1, hq]; simp [hdv]
  · rw [List.getElem?_set_ne (Ne.symm e)]
end
end Go.Proofs.Ytfplmdjlgjgbgaa
