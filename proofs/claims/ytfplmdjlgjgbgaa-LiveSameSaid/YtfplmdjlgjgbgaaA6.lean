/- Arguments opened: what may be read as data is a typed value, readable at depth. -/
import Derived.Test.YtfplmdjlgjgbgaaA5
import Derived.OpenShut
import Derived.Test.YtfplmdjlgjgbgaaKo
import Derived.Deep.Slices
namespace Go.Proofs.Ytfplmdjlgjgbgaa
set_option linter.unusedVariables false
set_option linter.unusedSimpArgs false
open Go Go.RowKit Go.ChangeShapes Go.WideShapes Go.Deep

class Opn (P : Program) (e : TypeId) (α : outParam Type) (I : outParam (Enc α)) (D : outParam (@Dp α I)) : Prop where
  opn : ∀ {H : Type} {enc : TypeId × Value → H} {W : World} {fuel : Nat} {cs : List Value} {x : DataW H × List MemPlace}, DataW.trod enc P W 0 (fun _ => true) true fuel e cs = some x → ∃ u : α, cs = I.enc u ∧ D.rd (okOf W fun _ => False) W u

section
variable {P : Program} {t e : TypeId}
theorem opn_int (ht : P.underlying t = some (.int .i64)) : Opn P t Int (by infer_instance) (by infer_instance) := ⟨fun h => by
  obtain ⟨x, h1, _, hw⟩ := DataW.trod_int ht h
  exact ⟨x, h1, wfi_iff.2 hw⟩⟩
theorem opn_iof {k : IntKind} (ht : P.underlying t = some (.int k)) : Opn P t (Iof k) (by infer_instance) (by infer_instance) := ⟨fun h => by
  obtain ⟨x, h1, _, hw⟩ := DataW.trod_int ht h
  exact ⟨⟨x⟩, h1, hw⟩⟩
theorem opn_bool (ht : P.underlying t = some .bool) : Opn P t Bool (by infer_instance) (by infer_instance) := ⟨fun h => by
  obtain ⟨x, h1, _⟩ := DataW.trod_bool ht h
  exact ⟨x, h1, trivial⟩⟩
theorem opn_str (ht : P.underlying t = some .string) : Opn P t Str (by infer_instance) (by infer_instance) := ⟨fun h => by
  obtain ⟨x, h1, _⟩ := DataW.trod_string ht h
  exact ⟨⟨x⟩, h1, trivial⟩⟩
theorem opn_slice {α : Type} {I : Enc α} {D : Dp α} (ht : P.underlying t = some (.slice e)) (hE : Opn P e α I D) (hc : P.cellsOf e = I.sz) : Opn P t (Sl α) (by infer_instance) (by infer_instance) := ⟨fun {H enc W fuel cs x} h => by
  rcases open_slice ht h with ⟨hcs, _⟩ | ⟨a, len, c, m, n, DD, Pl, hcs, _, hl, hm, hmm, _, hi⟩
  · exact ⟨⟨none, 0, []⟩, hcs, Dp.dflt _ _⟩
  · simp only [if_true] at hmm
    subst hmm
    have each : ∀ i, i < len → ∃ u : α, D.rd (okOf W fun _ => False) W u ∧ W.cells? 0 (a.add (i * I.sz)) I.sz = some (I.enc u) := fun i hil => by
      obtain ⟨cs', hc', ht'⟩ := hi i (by omega)
      rw [hc] at hc'
      obtain ⟨u, rfl, hu⟩ := hE.opn ht'
      exact ⟨u, hu, hc'⟩
    obtain ⟨us, hul, hus⟩ := list_of len each
    refine ⟨⟨some a, m, us⟩, by rw [hcs, ← hul]; rfl, ⟨?_, fun u hu => ?_⟩⟩
    · refine ⟨flat_len fun u _ => I.len u, by show us.length ≤ m; omega, hm, ?_⟩
      by_cases h0 : len = 0
      · exact .inl (by show us.length = 0; omega)
      · have cell : ∀ (j : Nat) v, (us.flatMap I.enc)[j]? = some v → W.cell? (a.add j) = some v := fun j v hj => by
          have hp := I.pos
          have hjl := (List.getElem?_eq_some_iff.1 hj).1
          rw [flat_len fun u _ => I.len u] at hjl
          have hq : j / I.sz < us.length := Nat.div_lt_of_lt_mul (by rw [Nat.mul_comm]; exact hjl)
          have hr : j % I.sz < I.sz := Nat.mod_lt _ hp
          have ej : j / I.sz * I.sz + j % I.sz = j := by rw [Nat.mul_comm]; exact Nat.div_add_mod j I.sz
          rw [← ej, flat_get (fun u _ => I.len u) (List.getElem?_eq_getElem hq) hr] at hj
          obtain ⟨_, hcell⟩ := hus _ _ (List.getElem?_eq_getElem hq)
          obtain ⟨_, hcl, hat⟩ := World.cells?_some hcell
          have := hat (j % I.sz) hr
          rw [add_add', ej] at this
          rw [this]
          exact hj
        refine .inr ⟨a, rfl, ⟨?_, id⟩, cell⟩
        have hlen : 0 < (us.flatMap I.enc).length := by rw [flat_len fun u _ => I.len u, hul]; exact Nat.mul_pos (by omega) I.pos
        have := cell_lt (cell 0 _ (List.getElem?_eq_getElem hlen))
        rwa [add_block] at this
    · obtain ⟨i, hi'⟩ := List.getElem?_of_mem hu
      exact (hus i u hi').1⟩
theorem cut_drop (cs : List Value) (o k : Nat) : cs.drop o = (cs.drop o).take k ++ cs.drop (o + k) := by
  rw [← List.drop_drop, List.take_append_drop]

/-- An argument, by its type. -/
theorem open_sl {α : Type} {I : Enc α} {D : Dp α} {H : Type} {enc : TypeId × Value → H} {W : World} {A : Option Addr} {len cap : Nat} {d : DataW H} {p : List MemPlace} [hO : Opn P t (Sl α) (by infer_instance) (by infer_instance)] (h : DataW.Trod enc P W 0 (fun _ => true) true t (.slice A len cap) d p) :
    ∃ s : Sl α, A = s.A ∧ len = s.xs.length ∧ cap = s.c ∧ RdD (okOf W fun _ => False) W s := by
  obtain ⟨fuel, hf⟩ := h
  obtain ⟨s, h1, h2⟩ := hO.opn hf
  simp [Value.cells, Enc.enc] at h1
  exact ⟨s, h1.1, h1.2.1, h1.2.2, ⟨h2⟩⟩
theorem open_agg {α : Type} {I : Enc α} {D : Dp α} {H : Type} {enc : TypeId × Value → H} {W : World} {cs : Array Value} {d : DataW H} {p : List MemPlace} [hO : Opn P t α I D] (h : DataW.Trod enc P W 0 (fun _ => true) true t (.agg cs) d p) :
    ∃ s : α, cs = (I.enc s).toArray ∧ RdD (okOf W fun _ => False) W s := by
  obtain ⟨fuel, hf⟩ := h
  obtain ⟨s, h1, h2⟩ := hO.opn hf
  exact ⟨s, by rw [← h1]; rfl, ⟨h2⟩⟩
/-- A walk's contract as a row wants it. -/
theorem Spec.run {g : FuncId} {vs : List Value} {Rd : FP → World → Prop} {v0 : Value} (h : Spec P g vs [] Rd fun v L' => v = v0 ∧ L' = []) (W : World) (hr : Rd (okOf W fun _ => False) W) : Calls P g vs.toArray W fun e w' => ∃ v, e = .returned v ∧ v = v0 ∧ Step W (fun _ => False) w' := by
  have := h W (fun _ => False) (fun _ h => h) hr
  refine Calls.mono this fun e w' ⟨v, e1, L', ⟨e2, e3⟩, hs⟩ => ⟨v, e1, e2, ?_⟩
  exact hs.step
end
end Go.Proofs.Ytfplmdjlgjgbgaa
