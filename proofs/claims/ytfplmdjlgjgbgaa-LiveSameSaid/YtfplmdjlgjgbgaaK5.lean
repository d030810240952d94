/- Rules for rows: element, store, append, cut, make, literal. -/
import Derived.Test.YtfplmdjlgjgbgaaK4
import Derived.Laws.MakeOwn
namespace Go.Proofs.Ytfplmdjlgjgbgaa
set_option linter.unusedVariables false
set_option linter.unusedSimpArgs false
open Go Go.RowKit

structure TI (P : Program) (e : TypeId) (z : Value) (sz bytes : Nat) : Prop where
  info : ∃ i : TypeInfo, P.info? e = some i ∧ i.zero = some z ∧ i.size = sz ∧ i.bytes = bytes
  zs : z.cells.size = sz
  pos : 0 < sz
  posb : 0 < bytes

theorem TI.of {P : Program} {e : TypeId} {z : Value} {sz bytes : Nat} (h : (P.info? e).map (fun i => (i.zero, i.size, i.bytes)) = some (some z, sz, bytes)) (hz : z.cells.size = sz) (hp : 0 < sz) (hb : 0 < bytes) : TI P e z sz bytes := by
  obtain ⟨i, hi, hzz⟩ := Option.map_eq_some_iff.1 h
  simp only [Prod.mk.injEq] at hzz
  exact ⟨⟨i, hi, hzz.1, hzz.2.1, hzz.2.2⟩, hz, hp, hb⟩
theorem TI.size {P : Program} {e : TypeId} {z : Value} {sz bytes : Nat} (h : TI P e z sz bytes) (w : World) : (sizeOf e).run P w = .ok sz w := by
  obtain ⟨i, hi, _, hs, _⟩ := h.info
  simp [sizeOf, typeInfo, hi, hs]
theorem TI.zero {P : Program} {e : TypeId} {z : Value} {sz bytes : Nat} (h : TI P e z sz bytes) (w : World) : (zeroValue e).run P w = .ok z w := by
  obtain ⟨i, hi, hs, _⟩ := h.info
  simp [zeroValue, typeInfo, hi, hs]

/-! literals -/
theorem foldl_lay (vs : List Value) : ∀ (k : Nat) (off : Nat) (cs : Array Value), off + k + vs.length ≤ cs.size →
    ((vs.zipIdx k).foldl (fun (cs : Array Value) (p : Value × Nat) => cs.setIfInBounds (off + p.2) p.1) cs).toList = lay cs.toList (off + k) vs := by
  induction vs with
  | nil => intro k off cs _; simp [lay]
  | cons v vs ih =>
    intro k off cs hl
    simp only [List.length_cons] at hl
    rw [List.zipIdx_cons, List.foldl_cons, ih (k + 1) off _ (by simp; omega)]
    simp only [lay, Array.toList_setIfInBounds, List.length_cons]
    have hk : off + k < cs.toList.length := by simp; omega
    rw [List.set_eq_take_append_cons_drop, if_pos hk]
    rw [List.append_assoc, List.append_assoc]
    have e1 : (cs.toList.take (off + k) ++ v :: cs.toList.drop (off + k + 1)).take (off + (k + 1)) = cs.toList.take (off + k) ++ [v] := by
      rw [List.take_append]
      simp only [List.length_take]
      rw [Nat.min_eq_left (by omega), List.take_of_length_le (by simp; omega)]
      rw [show off + (k + 1) - (off + k) = 1 by omega]; rfl
    have e2 : (cs.toList.take (off + k) ++ v :: cs.toList.drop (off + k + 1)).drop (off + (k + 1) + vs.length) = cs.toList.drop (off + k + (vs.length + 1)) := by
      rw [List.drop_append]
      simp only [List.length_take]
      rw [Nat.min_eq_left (by omega), List.drop_eq_nil_of_le (by simp; omega), List.nil_append]
      rw [show off + (k + 1) + vs.length - (off + k) = vs.length + 1 by omega, List.drop_succ_cons, List.drop_drop]
      congr 1; omega
    rw [e1, e2, List.append_assoc]; rfl

theorem fill_lay (place : Nat → Option (Nat × Nat)) (off : Nat → Nat) : ∀ (l : List (Nat × Value)) (cs : List Value), (∀ p ∈ l, place p.1 = some (off p.1, p.2.cells.size) ∧ off p.1 + p.2.cells.toList.length ≤ cs.length) →
    Instr.fill place cs.toArray l = some (l.foldl (fun cs p => lay cs (off p.1) p.2.cells.toList) cs).toArray
  | [], cs, _ => rfl
  | (i, v) :: l, cs, h => by
    obtain ⟨h1, h2⟩ := h (i, v) (by simp)
    simp only at h1 h2
    have hlen : (lay cs (off i) v.cells.toList).length = cs.length := by simp only [lay, List.length_append, List.length_take, List.length_drop]; omega
    have ih := fill_lay place off l (lay cs (off i) v.cells.toList) fun p hp => by rw [hlen]; exact h p (by simp [hp])
    have e := foldl_lay v.cells.toList 0 (off i) cs.toArray (by simpa using h2)
    unfold Instr.fill
    rw [h1]
    have h3 : ¬ (v.cells.size ≠ v.cells.size ∨ off i + v.cells.size > cs.toArray.size) := by simp at h2 ⊢; omega
    simp only [decide_not, Bool.or_eq_true, ne_eq, not_true_eq_false, decide_false, decide_true, Bool.not_true, Bool.false_or] at *
    have h4 : (decide (off i + v.cells.size > cs.toArray.size)) = false := by simp at h2 ⊢; omega
    simp only [h4, Bool.false_eq_true, if_false]
    rw [List.foldl_cons, ← ih]
    congr 1
    apply Array.ext'
    rw [← Array.foldl_toList]
    have : (v.cells.zipIdx).toList = v.cells.toList.zipIdx := by simp
    rw [this]
    simpa using e

theorem made_flat (z : Array Value) : ∀ k, (madeCells z (k * z.size)).toList = (List.replicate k z.toList).flatten := by
  have h0 : ∀ m, (madeCells z m).toList = (List.range m).map fun i => z[i % z.size]! := fun m => by simp [madeCells]
  intro k
  induction k with
  | zero => simp [h0]
  | succ k ih =>
    rw [List.replicate_succ, List.flatten_cons, ← ih, h0, h0, Nat.add_mul, Nat.one_mul, Nat.add_comm, List.range_add, List.map_append]
    congr 1
    · apply List.ext_getElem
      · simp
      · intro i h1 h2
        simp at h1
        simp [Nat.mod_eq_of_lt h1, h1]
    · rw [List.map_map]
      apply List.map_congr_left
      intro i _
      simp

section
variable {w : World} {A : Option Addr} {n c sz : Nat} {e : TypeId} {cs : List Value} {f : FP}

theorem row.adr (h : (row A n c e sz cs).sat w f) (hn : 0 < n) : ∃ a, A = some a ∧ a.spot = none := by
  obtain ⟨h1, h2, h3, h4⟩ := h
  cases A with
  | none => obtain ⟨rfl, _⟩ := h4; omega
  | some a => exact ⟨a, rfl, h4.1⟩
theorem row.cell {a : Addr} (h : (row (some a) n c e sz cs).sat w f) {j : Nat} {v : Value} (hj : cs[j]? = some v) : w.cell? (a.add j) = some v := by
  have hr := row.rd h (ok := fun _ => True) fun _ _ => trivial
  rcases hr.2.2.2 with h0 | ⟨a', ha, hc⟩
  · have := (List.getElem?_eq_some_iff.1 hj).1
    rw [hr.1, h0] at this
    omega
  · cases ha
    exact hc.2 j v hj
theorem row.len (h : (row A n c e sz cs).sat w f) : cs.length = n * sz ∧ n ≤ c ∧ c ≤ maxLen := ⟨h.1, h.2.1, h.2.2.1⟩

theorem row.put {P : Program} {a : Addr} (h : (row (some a) n c e sz cs).sat w f) (j : Nat) (vs : List Value) (hl : j + vs.length ≤ cs.length) (h1 : ∀ v ∈ vs, v.oneCell' = true) :
    ∃ w', (storeCells (a.add j) vs).run P w = .ok () w' ∧ (row (some a) n c e sz (lay cs j vs)).sat w' f ∧ Step w f w' := by
  obtain ⟨k0, k1, k2, ks, kf, cur, kh, kc, kt⟩ := h
  have hfit : a.off + j + 0 + vs.length ≤ cur.size := by
    have : n * sz ≤ c * sz := Nat.mul_le_mul_right _ k1
    omega
  rw [add_spot ks]
  refine ⟨_, run_storeCells_at P a.block (a.off + j) e vs 0 cur w kh hfit h1, ⟨by rw [← k0]; simp [lay]; omega, k1, k2, ks, kf, _, setRow_heap w a.block cur _ e _ kh, ?_, ?_⟩, ?_⟩
  · simp
    omega
  · have e1 : cs = (cur.toList.drop a.off).take (n * sz) := kt.symm
    have hcl : (cur.toList.drop a.off).length ≥ n * sz := by
      have : n * sz ≤ c * sz := Nat.mul_le_mul_right _ k1
      simp; omega
    apply List.ext_getElem?
    intro i
    simp only [lay]
    rw [e1]
    by_cases hi : i < n * sz
    · rw [List.getElem?_take_of_lt hi, List.getElem?_drop]
      simp only [Nat.add_zero]
      by_cases h2 : i < j
      · rw [List.append_assoc, List.getElem?_append_left (by simp; omega), List.getElem?_take_of_lt (by omega), List.append_assoc, List.getElem?_append_left (by simp; omega), List.getElem?_take_of_lt h2, List.getElem?_take_of_lt hi, List.getElem?_drop]
      · by_cases h3 : i < j + vs.length
        · rw [List.append_assoc, List.getElem?_append_right (by simp; omega), List.getElem?_append_left (by simp; omega), List.append_assoc, List.getElem?_append_right (by simp; omega), List.getElem?_append_left (by simp; omega)]
          congr 1
          simp
          omega
        · rw [List.append_assoc, List.getElem?_append_right (by simp; omega), List.getElem?_append_right (by simp; omega), List.append_assoc, List.getElem?_append_right (by simp; omega), List.getElem?_append_right (by simp; omega), List.getElem?_drop, List.getElem?_drop, List.getElem?_take_of_lt (by simp; omega), List.getElem?_drop]
          congr 1
          simp
          omega
    · rw [List.getElem?_eq_none (by simp; omega), List.getElem?_eq_none (by simp; omega)]
  · exact ⟨rfl, rfl, rfl, by simp [World.setRow], fun x _ hn => by
      have : x ≠ a.block := fun e => hn ((kf x).2 e)
      simp [World.setRow, Array.getElem?_modify, Ne.symm this]⟩
end

section
variable {P : Program} {w : World} {A : Option Addr} {n c sz bytes : Nat} {t e : TypeId} {z : Value} {cs : List Value} {f : FP}

/-- append, whatever stands behind the length. -/
theorem row.app (ht : P.underlying t = some (.slice e)) (hI : TI P e z sz bytes) (h : (row A n c e sz cs).sat w f) {tx ty : TypeId} {x : Value} {m : Nat} {news : List Value} (hs : Src P sz tx x m news w) (hb : (n + m) * bytes ≤ 140737488355328) :
    ∃ A' c' w' g, (Builtin.append_ #[t, tx] ty #[.slice A n c, x]).run P w = .ok (.slice A' (n + m) c') w' ∧ (row A' (n + m) c' e sz (cs ++ news)).sat w' g ∧ Step w f w' ∧ ∀ b, g b → f b ∨ w.heap.size ≤ b := by
  obtain ⟨i, hi, hz0, hz1, hz2⟩ := hI.info
  subst hz1
  subst hz2
  have hsmall : n + m ≤ 140737488355328 := Nat.le_trans (Nat.le_mul_of_pos_right _ hI.posb) hb
  have hlen : (cs ++ news).length = (n + m) * i.size := by rw [List.length_append, h.1, hs.newsLen, Nat.add_mul]
  have grow : ∀ (hold : (Builtin.firstCells i.size n (.slice A n c)).run P w.drew = .ok cs.toArray w.drew), c < n + m →
      ∃ A' c' w' g, (Builtin.append_ #[t, tx] ty #[.slice A n c, x]).run P w = .ok (.slice A' (n + m) c') w' ∧ (row A' (n + m) c' e i.size (cs ++ news)).sat w' g ∧ Step w f w' ∧ ∀ b, g b → f b ∨ w.heap.size ≤ b := by
    intro hold hg
    have hr := run_append_grow_src (P := P) w t tx ty e i z ht hi hz0 A n c cs hold x m news hs hg (by omega) (growslice_fits (by omega) hb)
    have hge := grownCap_ge w (n + m) c e
    have hcm : grownCap w (n + m) c e ≤ maxLen := grownCap_le_maxLen w (n + m) c e (by simp only [maxLen]; omega)
    refine ⟨_, _, _, fun x => x = w.heap.size, hr, ⟨hlen, hge, hcm, rfl, fun _ => Iff.rfl, _, heap_alloc_new w.drew _, ?_, ?_⟩, ?_, fun b hb => .inr (Nat.le_of_eq hb.symm)⟩
    · simp only [Array.size_append, List.size_toArray, size_zeroCells, hI.zs, hlen, ← Nat.add_mul, Nat.zero_add]
      refine Nat.mul_le_mul_right _ ?_
      omega
    · simp only [Array.toList_append, List.drop_zero]
      rw [← hlen]
      exact List.take_left
    · exact (Step.drew w f).trans (Step.alloc w.drew f _) fun b hb => .inl hb
  cases A with
  | none =>
    obtain ⟨k0, k1, k2, rfl, k4⟩ := h
    obtain rfl : n = 0 := by omega
    obtain rfl : cs = [] := List.eq_nil_of_length_eq_zero (by simpa using k0)
    by_cases hm : m = 0
    · subst hm
      have hn : news = [] := List.eq_nil_of_length_eq_zero (by simpa using hs.newsLen)
      subst hn
      refine ⟨none, 0, w, f, ?_, ⟨by simp, by omega, by omega, rfl, k4⟩, Step.refl _ _, fun b hb => .inl hb⟩
      rcases hs.kind with ⟨e', hk⟩ | hk <;> simp [Builtin.append_, run_underlying ht, run_underlying hk, sizeOf, typeInfo, hi, hs.len, hs.cells]
    · exact grow (by simp [Builtin.firstCells]) (by omega)
  | some a =>
    by_cases hroom : n + m ≤ c
    · obtain ⟨k0, k1, k2, ks, kf, cur, kh, kc, kt⟩ := h
      have hfit : a.off + n * i.size + 0 + news.length ≤ cur.size := by
        rw [hs.newsLen]
        have : (n + m) * i.size ≤ c * i.size := Nat.mul_le_mul_right _ hroom
        rw [Nat.add_mul] at this
        omega
      have hst := run_storeCells_at P a.block (a.off + n * i.size) e news 0 cur w kh hfit hs.one
      rw [← add_spot ks] at hst
      refine ⟨some a, c, w.setRow a.block (cur.toList.take (a.off + n * i.size + 0) ++ news ++ cur.toList.drop (a.off + n * i.size + 0 + news.length)).toArray, f, ?_,
        ⟨hlen, hroom, k2, ks, kf, (cur.toList.take (a.off + n * i.size + 0) ++ news ++ cur.toList.drop (a.off + n * i.size + 0 + news.length)).toArray, setRow_heap w a.block cur _ e _ kh, ?_, ?_⟩, ?_, fun b hb => .inl hb⟩
      · rcases hs.kind with ⟨e', hk⟩ | hk <;> simp [Builtin.append_, run_underlying ht, run_underlying hk, sizeOf, typeInfo, hi, hs.len, hroom, hs.cells] <;> rw [hst] <;> simp
      · simp
        omega
      · simp only [Nat.add_zero]
        have hdl : a.off ≤ cur.toList.length := by simp; omega
        have hnl : n * i.size ≤ (cur.toList.drop a.off).length := by
          have : n * i.size ≤ c * i.size := Nat.mul_le_mul_right _ k1
          simp; omega
        have e1 : cur.toList.take (a.off + n * i.size) = cur.toList.take a.off ++ cs := by
          rw [← kt, List.take_add]
        rw [e1, List.append_assoc, List.append_assoc, List.drop_append_of_le_length (by simp; omega)]
        have e2 : (List.take a.off cur.toList).drop a.off = [] := List.drop_eq_nil_of_le (by simp; omega)
        rw [e2, List.nil_append, ← List.append_assoc, ← hlen]
        exact List.take_left
      · exact ⟨rfl, rfl, rfl, by simp [World.setRow], fun x _ hn => by
          have : x ≠ a.block := fun e => hn ((kf x).2 e)
          simp [World.setRow, Array.getElem?_modify, Ne.symm this]⟩
    · refine grow ?_ (by omega)
      have := run_firstCells_some (P := P) w.drew i.size n a n c cs h.1 (fun j v hj => by
        have := row.cell h hj
        simpa using this)
      exact this
end
end Go.Proofs.Ytfplmdjlgjgbgaa
