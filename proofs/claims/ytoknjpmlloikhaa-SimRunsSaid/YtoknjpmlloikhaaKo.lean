/- What comes in: maps and rows, opened for the walk. -/
import Derived.Test.YtoknjpmlloikhaaK1
import Derived.Deep.Slices
import Derived.Deep.Fields
import Derived.ChangeSame
import Derived.WideKeyElems2
import Derived.OpenShut
import Derived.ChangeOld
import Derived.ProofKit
namespace Go.Proofs.Ytoknjpmlloikhaa
set_option linter.unusedVariables false
set_option linter.unusedSimpArgs false
open Go Go.RowKit Go.Maps Go.WideElems Go.ChangeShapes Go.WideShapes Go.Deep

theorem plainElem_any {H : Type} {P : Program} {e : TypeId} {v : Value} {z : DataW H × List MemPlace} (h : plainElem P e v = some z) : ∃ y, plainElem (H := Unit) P e v = some y := by
  unfold plainElem at h ⊢
  split at h
  · exact ⟨_, rfl⟩
  · split at h
    · rename_i hc; rw [if_pos hc]; exact ⟨_, rfl⟩
    · cases h
  · split at h
    · rename_i hc; rw [if_pos hc]; exact ⟨_, rfl⟩
    · cases h
  · cases h

theorem fit_unit {H : Type} {P : Program} {k e : TypeId} {R0 : Value → Option (DataW H × List MemPlace)} {es : Array MapEntry} {clock : Nat} (F : WideElems.Fit P k R0 es clock) (hs : ∀ x ∈ es.toList, ∀ z, R0 x.val = some z → ∃ y, plainElem (H := Unit) P e x.val = some y) : WideElems.Fit P k (plainElem (H := Unit) P e) es clock :=
  ⟨F.size, F.stamped, fun x hx => by
    obtain ⟨y, hy⟩ := F.reads x hx
    unfold rd at hy ⊢
    simp only [Option.bind_eq_some_iff, Option.map_eq_some_iff] at hy
    obtain ⟨key, h1, d, h2, _⟩ := hy
    obtain ⟨y', hy'⟩ := hs x hx d h2
    exact ⟨(key, y'.1), by simp [h1, hy']⟩⟩

theorem IsM.of_fit {P : Program} {e kt : TypeId} {α : Type} (E : EK P e α) {w : World} {b : Nat} {es : Array MapEntry} {clock : Nat} (hk : P.underlying kt = some (.int .i64)) (hb : w.heap[b]? = some (.map es clock)) (F : WideElems.Fit P kt (plainElem (H := Unit) P e) es clock) :
    ∃ f, IsM E kt w b es.size f := by
  let L := (es.toList.map (rg P kt (plainElem (H := Unit) P e))).foldr DataW.insert []
  have hL : ∀ p ∈ L, ∃ k x, wfi k ∧ E.good x ∧ p = (.int .i64 k, E.dat x) := by
    intro p hp
    obtain ⟨x, hx, rfl⟩ := List.mem_map.1 (mem_sorted.1 hp)
    obtain ⟨y, hy⟩ := F.reads x hx
    rw [rg_of hy]
    obtain ⟨k, _, h2, h3⟩ := keyOf_int_inv hk (rd_key hy)
    obtain ⟨z, hz, hzd⟩ := rd_val hy
    obtain ⟨a, ha, hv, hz2⟩ := E.inv _ _ hz
    refine ⟨k, a, wfi_iff.2 h3, ha, ?_⟩
    obtain ⟨y1, y2⟩ := y
    simp only at h2 hzd
    rw [h2, hzd, hz2]
  let g : Int → Option (Lit × DataW Unit) := fun k => L.find? (fun p => p.1.sameKey (.int .i64 k))
  have hg : ∀ k p, g k = some p → wfi k ∧ ∃ x, E.good x ∧ p.2 = E.dat x := by
    intro k p hp
    obtain ⟨k', x, h1, h2, rfl⟩ := hL p (List.mem_of_find?_eq_some hp)
    have := List.find?_some hp
    simp only at this
    rw [sameKey_i] at this
    have e : k' = k := by simpa using this
    subst e
    exact ⟨h1, x, h2, rfl⟩
  have hf : ∀ k, ∃ o : Option α, (∀ x, o = some x → E.good x) ∧ o.isSome = (g k).isSome ∧ ∀ z, (match g k with | some p => p.2 | none => z) = (o.map E.dat).getD z := by
    intro k
    cases h : g k with
    | none => exact ⟨none, fun _ h => (by cases h), rfl, fun _ => rfl⟩
    | some p =>
      obtain ⟨_, x, hx, hp⟩ := hg k p h
      exact ⟨some x, fun y hy => by cases hy; exact hx, rfl, fun _ => hp⟩
  obtain ⟨f, hf⟩ := Classical.skolem.1 hf
  refine ⟨f, _, ⟨es, clock, hb, F, Nat.le_refl _, rfl⟩, fun k hk => ?_, fun k x hx => (hf k).1 x hx, fun k _ => ⟨?_, fun z => ?_⟩⟩
  · have := (hf k).2.1
    cases h : g k with
    | none => rw [h] at this; simp at this; exact absurd this hk
    | some p => exact (hg k p h).1
  · rw [(hf k).2.1]
    show L.any _ = (L.find? _).isSome
    rw [Bool.eq_iff_iff, List.find?_isSome, List.any_eq_true]
  · rw [← (hf k).2.2 z]
    cases hh : g k with
    | none =>
      have hh' : L.find? (fun p => p.1.sameKey (.int .i64 k)) = none := hh
      simp only [DataW.atKey]
      rw [hh']
    | some q =>
      have hh' : L.find? (fun p => p.1.sameKey (.int .i64 k)) = some q := hh
      simp only [DataW.atKey]
      rw [hh']

section
variable {H : Type} {enc : TypeId × Value → H} {P : Program} {W : World}

/-- A map of ints to ints that came in. -/
theorem open_mapI {t k e : TypeId} (ht : P.underlying t = some (.map k e)) (hk : P.underlying k = some (.int .i64)) (he : P.underlying e = some (.int .i64)) {v : Option Nat} {d : DataW H} {p : List MemPlace} (h : DataW.Trod enc P W 0 (fun _ => true) true t (.map v) d p) :
    ∃ N F, RdM (ekInt he : EK P e Int) k (okOf W fun _ => False) W v N F := by
  obtain ⟨fuel, hf⟩ := h
  rcases WideElems.open_map ht hf with ⟨hcs, _⟩ | ⟨b, es, clock, n, _, hcs, hb, _, F, _⟩
  · simp [Value.cells] at hcs
    subst hcs
    exact ⟨0, fun _ => none, .inl ⟨rfl, fun _ => rfl⟩⟩
  · simp [Value.cells] at hcs
    subst hcs
    obtain ⟨f, hM⟩ := IsM.of_fit (ekInt he) hk hb (fit_unit F fun x _ z hz => plainElem_any (elemAt_plainElem_int he hz))
    exact ⟨es.size, f, .inr ⟨b, rfl, ⟨hM.lt, id⟩, hM⟩⟩

theorem cell_lt {w : World} {a : Addr} {v : Value} (h : w.cell? a = some v) : a.block < w.heap.size := by
  apply Classical.byContradiction
  intro hn
  have : w.heap[a.block]? = none := by simp; omega
  simp [World.cell?, this] at h

theorem list_of {α : Type} {p : Nat → α → Prop} : ∀ n, (∀ i, i < n → ∃ m, p i m) → ∃ xs : List α, xs.length = n ∧ ∀ i m, xs[i]? = some m → p i m
  | 0, _ => ⟨[], rfl, fun i m h => by simp at h⟩
  | n + 1, h => by
    obtain ⟨xs, hl, hx⟩ := list_of n fun i hi => h i (Nat.lt_succ_of_lt hi)
    obtain ⟨m, hm⟩ := h n (Nat.lt_succ_self n)
    refine ⟨xs ++ [m], by simp [hl], fun i y hy => ?_⟩
    rcases Nat.lt_or_ge i xs.length with hi | hi
    · rw [List.getElem?_append_left hi] at hy; exact hx i y hy
    · rw [List.getElem?_append_right hi] at hy
      have : i = n := by
        have := (List.getElem?_eq_some_iff.1 hy).1
        simp at this; omega
      subst this
      rw [hl, Nat.sub_self] at hy
      simp at hy; subst hy; exact hm
end
end Go.Proofs.Ytoknjpmlloikhaa
