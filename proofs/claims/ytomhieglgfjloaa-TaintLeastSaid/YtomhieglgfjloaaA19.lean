/- An argument that is a slice of maps from int to bool, opened. -/
import Derived.Test.YtomhieglgfjloaaA6
import Derived.WideKeyArgs
namespace Go.Proofs.Ytomhieglgfjloaa
set_option linter.unusedVariables false
set_option linter.unusedSimpArgs false
open Go Go.RowKit Go.ChangeShapes Go.WideShapes Go.Deep

theorem elemAt_plainElem_bool {H : Type} {enc : TypeId × Value → H} {P : Program} {e : TypeId} (he : P.underlying e = some .bool) {W : World} {base : Nat} {sp : Nat → Bool} {held : Bool} {m : Nat} {v : Value} {z : DataW H × List MemPlace}
    (h : WideElems.elemAt enc P W base sp held m e v = some z) : plainElem P e v = some z := by
  obtain ⟨a, rfl, rfl⟩ := WideElems.elemAt_bool he h
  exact plainElem_bool he a

theorem trod_mapB {H : Type} {enc : TypeId × Value → H} {P : Program} {W : World} {t k e : TypeId} (ht : P.underlying t = some (.map k e)) (hk : P.underlying k = some (.int .i64)) (he : P.underlying e = some .bool) {fuel : Nat} {cs : List Value} {x : DataW H × List MemPlace} (h : DataW.trod enc P W 0 (fun _ => true) true fuel t cs = some x) :
    ∃ v N F, cs = [.map v] ∧ RdM (ekBool he : EK P e Bool) k (okOf W fun _ => False) W v N F := by
  rcases WideElems.open_map ht h with ⟨hcs, _⟩ | ⟨b, es, clock, n, _, hcs, hb, _, F, _⟩
  · exact ⟨none, 0, fun _ => none, hcs, .inl ⟨rfl, fun _ => rfl⟩⟩
  · obtain ⟨f, hM⟩ := IsM.of_fit (ekBool he) hk hb (fit_unit F fun x _ z hz => plainElem_any (elemAt_plainElem_bool he hz))
    exact ⟨some b, es.size, f, hcs, .inr ⟨b, rfl, ⟨hM.lt, id⟩, hM⟩⟩

theorem open_sliceP {P : Program} {t e : TypeId} {α : Type} {I : Enc α} {D : Dp α} {H : Type} {enc : TypeId × Value → H} {W : World} {A : Option Addr} {len cap : Nat} {d : DataW H} {p : List MemPlace} (Q : α → Prop) (ht : P.underlying t = some (.slice e)) (hc : P.cellsOf e = I.sz)
    (hE : ∀ {fuel : Nat} {cs : List Value} {x : DataW H × List MemPlace}, DataW.trod enc P W 0 (fun _ => true) true fuel e cs = some x → ∃ u : α, cs = I.enc u ∧ D.rd (okOf W fun _ => False) W u ∧ Q u)
    (h : DataW.Trod enc P W 0 (fun _ => true) true t (.slice A len cap) d p) :
    ∃ s : Sl α, A = s.A ∧ len = s.xs.length ∧ cap = s.c ∧ RdD (okOf W fun _ => False) W s ∧ ∀ u ∈ s.xs, Q u := by
  obtain ⟨fuel, hf⟩ := h
  rcases open_slice ht hf with ⟨hcs, _⟩ | ⟨a, len', c, m, n, DD, Pl, hcs, _, hl, hm, hmm, _, hi⟩
  · simp [Value.cells] at hcs
    obtain ⟨rfl, rfl, rfl⟩ := hcs
    exact ⟨⟨none, 0, []⟩, rfl, rfl, rfl, ⟨Dp.dflt _ _⟩, fun u hu => by cases hu⟩
  · simp only [if_true] at hmm
    subst hmm
    simp [Value.cells] at hcs
    obtain ⟨rfl, rfl, rfl⟩ := hcs
    have each : ∀ i, i < len → ∃ u : α, (D.rd (okOf W fun _ => False) W u ∧ Q u) ∧ W.cells? 0 (a.add (i * I.sz)) I.sz = some (I.enc u) := fun i hil => by
      obtain ⟨cs', hc', ht'⟩ := hi i (by omega)
      rw [hc] at hc'
      obtain ⟨u, rfl, hu⟩ := hE ht'
      exact ⟨u, hu, hc'⟩
    obtain ⟨us, hul, hus⟩ := list_of len each
    refine ⟨⟨some a, cap, us⟩, rfl, hul.symm, rfl, ⟨?_, fun u hu => ?_⟩, fun u hu => ?_⟩
    · refine ⟨flat_len fun u _ => I.len u, by show us.length ≤ cap; omega, hm, ?_⟩
      by_cases h0 : len = 0
      · exact .inl (by show us.length = 0; omega)
      · have cell : ∀ (j : Nat) v, (us.flatMap I.enc)[j]? = some v → W.cell? (a.add j) = some v := fun j v hj => by
          have hp := I.pos
          have hjl := (List.getElem?_eq_some_iff.1 hj).1
          rw [flat_len fun u _ => I.len u] at hjl
          have hq : j / I.sz < us.length := Nat.div_lt_of_lt_mul (by rw [Nat.mul_comm]; exact hjl)
          have hr : j % I.sz < I.sz := Nat.mod_lt _ hp
          have ej : j / I.sz * I.sz + j % I.sz = j := by rw [Nat.mul_comm]; exact Nat.div_add_mod j I.sz
          rw [← ej, flat_get (fun u _ => I.len u) (List.getElem?_eq_getElem hq) hr] at hj
          obtain ⟨_, hcell⟩ := hus _ _ (List.getElem?_eq_getElem hq)
          obtain ⟨_, hcl, hat⟩ := World.cells?_some hcell
          have := hat (j % I.sz) hr
          rw [add_add', ej] at this
          rw [this]
          exact hj
        refine .inr ⟨a, rfl, ⟨?_, id⟩, cell⟩
        have hlen : 0 < (us.flatMap I.enc).length := by rw [flat_len fun u _ => I.len u, hul]; exact Nat.mul_pos (by omega) I.pos
        have := cell_lt (cell 0 _ (List.getElem?_eq_getElem hlen))
        rwa [add_block] at this
    · obtain ⟨i, hi'⟩ := List.getElem?_of_mem hu
      exact (hus i u hi').1.1
    · obtain ⟨i, hi'⟩ := List.getElem?_of_mem hu
      exact (hus i u hi').1.2

theorem open_slMapB {P : Program} {t e k b : TypeId} {H : Type} {enc : TypeId × Value → H} {W : World} {A : Option Addr} {len cap : Nat} {d : DataW H} {p : List MemPlace} (ht : P.underlying t = some (.slice e)) (hc : P.cellsOf e = 1) (hm : P.underlying e = some (.map k b)) (hk : P.underlying k = some (.int .i64)) (hb : P.underlying b = some .bool)
    (h : DataW.Trod enc P W 0 (fun _ => true) true t (.slice A len cap) d p) :
    ∃ (s : Sl Mr) (N : Nat → Nat) (F : Nat → Int → Option Bool), A = s.A ∧ len = s.xs.length ∧ cap = s.c ∧ RdD (okOf W fun _ => False) W s ∧
      (∀ j, j < s.xs.length → RdM (ekBool hb : EK P b Bool) k (okOf W fun _ => False) W (nth s.xs j).b (N j) (F j)) ∧ ∀ j, s.xs.length ≤ j → F j = fun _ => none := by
  obtain ⟨s, h1, h2, h3, h4, h5⟩ := open_sliceP (α := Mr) (fun m => ∃ N F, RdM (ekBool hb : EK P b Bool) k (okOf W fun _ => False) W m.b N F) ht hc (fun {fuel cs x} hx => by
    obtain ⟨v, N, F, rfl, hR⟩ := trod_mapB hm hk hb hx
    exact ⟨⟨v⟩, rfl, trivial, N, F, hR⟩) h
  have hex : ∀ j, ∃ q : Nat × (Int → Option Bool), (j < s.xs.length → RdM (ekBool hb : EK P b Bool) k (okOf W fun _ => False) W (nth s.xs j).b q.1 q.2) ∧ (s.xs.length ≤ j → q.2 = fun _ => none) := fun j => by
    by_cases hj : j < s.xs.length
    · obtain ⟨N, F, hR⟩ := h5 _ (nth_mem hj)
      exact ⟨(N, F), fun _ => hR, fun h => absurd h (by omega)⟩
    · exact ⟨(0, fun _ => none), fun h => absurd h hj, fun _ => rfl⟩
  obtain ⟨q, hq⟩ := Classical.skolem.1 hex
  exact ⟨s, fun j => (q j).1, fun j => (q j).2, h1, h2, h3, h4, fun j hj => (hq j).1 hj, fun j hj => (hq j).2 hj⟩
end Go.Proofs.Ytomhieglgfjloaa
