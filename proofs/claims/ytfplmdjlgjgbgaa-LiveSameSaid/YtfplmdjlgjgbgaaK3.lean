/- Memory that is owned, piece by piece, apart: what a call has, what it leaves. -/
import Derived.Test.YtfplmdjlgjgbgaaK2
import Derived.Below
namespace Go.Proofs.Ytfplmdjlgjgbgaa
set_option linter.unusedVariables false
set_option linter.unusedSimpArgs false
open Go Go.RowKit

abbrev FP := Nat → Prop

structure HP where
  sat : World → FP → Prop
  loc : ∀ {w w' : World} {f : FP}, sat w f → (∀ b, f b → w'.heap[b]? = w.heap[b]?) → sat w' f
  dom : ∀ {w : World} {f : FP}, sat w f → ∀ b, f b → b < w.heap.size

def SF : List HP → World → FP → Prop
  | [], _, f => ∀ b, ¬ f b
  | A :: L, w, f => ∃ f1 f2 : FP, (∀ b, f b ↔ (f1 b ∨ f2 b)) ∧ (∀ b, f1 b → ¬ f2 b) ∧ A.sat w f1 ∧ SF L w f2

theorem SF.loc : ∀ {L : List HP} {w w' : World} {f : FP}, SF L w f → (∀ b, f b → w'.heap[b]? = w.heap[b]?) → SF L w' f
  | [], _, _, _, h, _ => h
  | A :: L, w, w', f, ⟨f1, f2, h1, h2, h3, h4⟩, hk => ⟨f1, f2, h1, h2, A.loc h3 fun b hb => hk b ((h1 b).2 (.inl hb)), SF.loc h4 fun b hb => hk b ((h1 b).2 (.inr hb))⟩

theorem SF.dom : ∀ {L : List HP} {w : World} {f : FP}, SF L w f → ∀ b, f b → b < w.heap.size
  | [], _, _, h, b, hb => absurd hb (h b)
  | A :: L, w, f, ⟨f1, f2, h1, _, h3, h4⟩, b, hb => by
    rcases (h1 b).1 hb with h | h
    · exact A.dom h3 b h
    · exact SF.dom h4 b h

theorem SF.iff : ∀ {L : List HP} {w : World} {f f' : FP}, SF L w f → (∀ b, f' b ↔ f b) → SF L w f'
  | [], _, _, _, h, he => fun b hb => h b ((he b).1 hb)
  | A :: L, w, f, f', ⟨f1, f2, h1, h2, h3, h4⟩, he => ⟨f1, f2, fun b => (he b).trans (h1 b), h2, h3, h4⟩

theorem SF.one {A : HP} {w : World} {f : FP} (h : A.sat w f) : SF [A] w f := ⟨f, fun _ => False, fun b => by simp, fun _ _ h => h, h, fun _ h => h⟩
theorem SF.of_one {A : HP} {w : World} {f : FP} (h : SF [A] w f) : A.sat w f := by
  obtain ⟨f1, f2, h1, _, h3, h4⟩ := h
  have : f = f1 := by funext b; exact propext ((h1 b).trans ⟨fun h => h.elim id fun h => absurd h (h4 b), .inl⟩)
  rw [this]; exact h3

/-- Two lists apart. -/
theorem SF.app : ∀ {L1 L2 : List HP} {w : World} {f : FP}, SF (L1 ++ L2) w f ↔ ∃ f1 f2 : FP, (∀ b, f b ↔ (f1 b ∨ f2 b)) ∧ (∀ b, f1 b → ¬ f2 b) ∧ SF L1 w f1 ∧ SF L2 w f2
  | [], L2, w, f => ⟨fun h => ⟨fun _ => False, f, fun b => by simp, fun _ h => h.elim, fun _ h => h, h⟩, fun ⟨f1, f2, h1, _, h3, h4⟩ => SF.iff (f := f2) h4 fun b => (h1 b).trans ⟨fun h => h.elim (fun h => absurd h (h3 b)) id, .inr⟩⟩
  | A :: L1, L2, w, f => by
    constructor
    · rintro ⟨g1, g2, e1, e2, hA, hr⟩
      obtain ⟨k1, k2, e3, e4, h1, h2⟩ := SF.app.1 hr
      refine ⟨fun b => g1 b ∨ k1 b, k2, fun b => ?_, fun b hb hk => ?_, ⟨g1, k1, fun b => Iff.rfl, fun b h h' => e2 b h ((e3 b).2 (.inl h')), hA, h1⟩, h2⟩
      · rw [e1, e3]; exact ⟨fun h => by rcases h with h | h | h <;> simp [h], fun h => by rcases h with (h | h) | h <;> simp [h]⟩
      · rcases hb with hb | hb
        · exact e2 b hb ((e3 b).2 (.inr hk))
        · exact e4 b hb hk
    · rintro ⟨g1, g2, e1, e2, ⟨k1, k2, e3, e4, hA, h1⟩, h2⟩
      refine ⟨k1, fun b => k2 b ∨ g2 b, fun b => ?_, fun b hb hk => ?_, hA, SF.app.2 ⟨k2, g2, fun b => Iff.rfl, fun b h h' => e2 b ((e3 b).2 (.inr h)) h', h1, h2⟩⟩
      · rw [e1, e3]; exact ⟨fun h => by rcases h with (h | h) | h <;> simp [h], fun h => by rcases h with h | h | h <;> simp [h]⟩
      · rcases hk with hk | hk
        · exact e4 b hb hk
        · exact e2 b ((e3 b).2 (.inl hb)) hk

theorem SF.swap {L1 L2 : List HP} {w : World} {f : FP} (h : SF (L1 ++ L2) w f) : SF (L2 ++ L1) w f := by
  obtain ⟨f1, f2, h1, h2, h3, h4⟩ := SF.app.1 h
  exact SF.app.2 ⟨f2, f1, fun b => (h1 b).trans Or.comm, fun b hb hb' => h2 b hb' hb, h4, h3⟩

/-- One piece of a list, by its place: taken out, and another one laid in its place. -/
theorem SF.focus : ∀ {L : List HP} {w : World} {f : FP} (i : Nat) {A : HP}, SF L w f → L[i]? = some A →
    ∃ f1 f2 : FP, (∀ b, f b ↔ (f1 b ∨ f2 b)) ∧ (∀ b, f1 b → ¬ f2 b) ∧ A.sat w f1 ∧ SF (L.eraseIdx i) w f2 ∧
      ∀ (w' : World) (A' : HP) (g1 g2 : FP), A'.sat w' g1 → SF (L.eraseIdx i) w' g2 → (∀ b, g1 b → ¬ g2 b) → SF (L.set i A') w' (fun b => g1 b ∨ g2 b)
  | [], _, _, _, _, _, hi => by simp at hi
  | B :: L, w, f, 0, A, ⟨f1, f2, h1, h2, h3, h4⟩, hi => by
    obtain rfl : B = A := by simpa using hi
    exact ⟨f1, f2, h1, h2, h3, h4, fun w' A' g1 g2 k1 k2 k3 => ⟨g1, g2, fun b => Iff.rfl, k3, k1, k2⟩⟩
  | B :: L, w, f, i + 1, A, ⟨f1, f2, h1, h2, h3, h4⟩, hi => by
    obtain ⟨k1, k2, e1, e2, e3, e4, e5⟩ := SF.focus i h4 (by simpa using hi)
    refine ⟨k1, fun b => f1 b ∨ k2 b, fun b => ?_, fun b hb hk => ?_, e3, ⟨f1, k2, fun b => Iff.rfl, fun b hb hk => h2 b hb ((e1 b).2 (.inr hk)), h3, e4⟩, ?_⟩
    · rw [h1, e1]; exact ⟨fun h => by rcases h with h | h | h <;> simp [h], fun h => by rcases h with h | h | h <;> simp [h]⟩
    · rcases hk with hk | hk
      · exact h2 b hk ((e1 b).2 (.inl hb))
      · exact e2 b hb hk
    · rintro w' A' g1 g2 q1 ⟨p1, p2, r1, r2, r3, r4⟩ q3
      refine ⟨p1, fun b => g1 b ∨ p2 b, fun b => ?_, fun b hb hk => ?_, r3, e5 w' A' g1 p2 q1 r4 fun b hb hk => q3 b hb ((r1 b).2 (.inr hk))⟩
      · show (g1 b ∨ g2 b) ↔ (p1 b ∨ (g1 b ∨ p2 b))
        rw [r1]; exact ⟨fun h => by rcases h with h | h | h <;> simp [h], fun h => by rcases h with h | h | h <;> simp [h]⟩
      · rcases hk with hk | hk
        · exact q3 b hk ((r1 b).2 (.inl hb))
        · exact r2 b hb hk

/-- What a step leaves: blocks but those of f are as they were; new ones may be there. -/
structure Step (w : World) (f : FP) (w' : World) : Prop where
  os : w'.os = w.os
  tape : w'.tape = w.tape
  output : w'.output = w.output
  size : w.heap.size ≤ w'.heap.size
  keep : ∀ b, b < w.heap.size → ¬ f b → w'.heap[b]? = w.heap[b]?

theorem Step.refl (w : World) (f : FP) : Step w f w := ⟨rfl, rfl, rfl, Nat.le_refl _, fun _ _ _ => rfl⟩
theorem Step.trans {w w1 w2 : World} {f f1 : FP} (h : Step w f w1) (k : Step w1 f1 w2) (hf : ∀ b, f1 b → f b ∨ w.heap.size ≤ b) : Step w f w2 :=
  ⟨k.os.trans h.os, k.tape.trans h.tape, k.output.trans h.output, Nat.le_trans h.size k.size, fun b hb hn =>
    (k.keep b (Nat.lt_of_lt_of_le hb h.size) fun h1 => (hf b h1).elim hn fun h2 => absurd hb (Nat.not_lt.2 h2)).trans (h.keep b hb hn)⟩
theorem Step.alloc (w : World) (f : FP) (o : Obj) : Step w f (w.alloc o) := by
  have g := World.grownBy_alloc w o none
  exact ⟨g.os, g.tape, g.output, g.size, fun b hb _ => g.block b hb (by simp)⟩
theorem Step.grown {w w' : World} {row : Option Nat} (h : w.grownBy w' row) {f : FP} (hr : ∀ b, row = some b → f b) : Step w f w' :=
  ⟨h.os, h.tape, h.output, h.size, fun b hb hn => h.block b hb fun e => hn (hr b e.symm)⟩
theorem Step.drew (w : World) (f : FP) : Step w f w.drew := ⟨rfl, rfl, rfl, Nat.le_refl _, fun _ _ _ => rfl⟩
theorem Step.setCell (w : World) (a : Addr) (v : Value) {f : FP} (hf : f a.block) : Step w f (w.setCell a v) :=
  ⟨rfl, rfl, rfl, by simp [World.setCell], fun b _ hn => Below.heap_setCell w a v b fun e => hn (e ▸ hf)⟩
theorem Step.mono {w w' : World} {f f' : FP} (h : Step w f w') (hf : ∀ b, f b → f' b) : Step w f' w' := ⟨h.os, h.tape, h.output, h.size, fun b hb hn => h.keep b hb fun h' => hn (hf b h')⟩
theorem Step.below {w w' : World} (h : Step w (fun _ => False) w') : Below w.heap.size w w' := ⟨h.os, h.tape, h.output, h.size, fun b hb => h.keep b hb id⟩
theorem Step.of_below {w w' : World} (h : Below w.heap.size w w') (f : FP) : Step w f w' := ⟨h.os, h.tape, h.output, h.size, fun b hb _ => h.block b hb⟩

/-- Where a call stands: it began in w0 with the blocks f0; now it has L. -/
structure St (w0 : World) (f0 : FP) (L : List HP) (w : World) : Prop where
  step : Step w0 f0 w
  sf : ∃ f, SF L w f ∧ ∀ b, f b → f0 b ∨ w0.heap.size ≤ b

section
variable {w0 w w' : World} {f0 : FP} {L : List HP}

theorem St.start {f : FP} (h : SF L w f) : St w f L w := ⟨Step.refl _ _, f, h, fun _ hb => .inl hb⟩
theorem St.begin (w : World) : St w (fun _ => False) [] w := St.start fun _ h => h

theorem St.focus (h : St w0 f0 L w) (i : Nat) {A : HP} (hi : L[i]? = some A) :
    ∃ f1 : FP, A.sat w f1 ∧ (∀ b, f1 b → f0 b ∨ w0.heap.size ≤ b) ∧
      ∀ (w' : World) (A' : HP) (g1 : FP), Step w f1 w' → A'.sat w' g1 → (∀ b, g1 b → f1 b ∨ w.heap.size ≤ b) → St w0 f0 (L.set i A') w' := by
  obtain ⟨f, hf, hfb⟩ := h.sf
  obtain ⟨f1, f2, e1, e2, e3, e4, e5⟩ := hf.focus i hi
  have hb1 : ∀ b, f1 b → f0 b ∨ w0.heap.size ≤ b := fun b hb => hfb b ((e1 b).2 (.inl hb))
  refine ⟨f1, e3, hb1, fun w' A' g1 hs hA hg => ⟨h.step.trans hs hb1, _, e5 w' A' g1 f2 hA (e4.loc fun b hb => hs.keep b (e4.dom b hb) fun h1 => e2 b h1 hb) ?_, ?_⟩⟩
  · intro b hb hb2
    rcases hg b hb with h1 | h1
    · exact e2 b h1 hb2
    · exact absurd (e4.dom b hb2) (Nat.not_lt.2 h1)
  · rintro b (hb | hb)
    · rcases hg b hb with h1 | h1
      · exact hb1 b h1
      · exact .inr (Nat.le_trans h.step.size h1)
    · exact hfb b ((e1 b).2 (.inr hb))

/-- A step that touches none of what is owned, and lays what is new. -/
theorem St.add (h : St w0 f0 L w) (A : HP) {g : FP} (hs : Step w (fun _ => False) w') (hA : A.sat w' g) (hg : ∀ b, g b → w.heap.size ≤ b) : St w0 f0 (L ++ [A]) w' := by
  obtain ⟨f, hf, hfb⟩ := h.sf
  refine ⟨h.step.trans hs (fun _ h => h.elim), fun b => f b ∨ g b, SF.app.2 ⟨f, g, fun b => Iff.rfl, fun b hb hb' => absurd (hf.dom b hb) (Nat.not_lt.2 (hg b hb')), hf.loc fun b hb => hs.keep b (hf.dom b hb) id, SF.one hA⟩, ?_⟩
  rintro b (hb | hb)
  · exact hfb b hb
  · exact .inr (Nat.le_trans h.step.size (hg b hb))

theorem St.idle (h : St w0 f0 L w) (hs : Step w (fun _ => False) w') : St w0 f0 L w' := by
  obtain ⟨f, hf, hfb⟩ := h.sf
  exact ⟨h.step.trans hs (fun _ h => h.elim), f, hf.loc fun b hb => hs.keep b (hf.dom b hb) id, hfb⟩

theorem St.drop (h : St w0 f0 L w) (i : Nat) : St w0 f0 (L.eraseIdx i) w := by
  by_cases hi : i < L.length
  · obtain ⟨f, hf, hfb⟩ := h.sf
    obtain ⟨f1, f2, e1, _, _, e4, _⟩ := hf.focus i (List.getElem?_eq_getElem hi)
    exact ⟨h.step, f2, e4, fun b hb => hfb b ((e1 b).2 (.inr hb))⟩
  · rw [List.eraseIdx_of_length_le (by omega)]; exact h

theorem St.nil (h : St w0 f0 L w) : St w0 f0 [] w := ⟨h.step, fun _ => False, fun _ h => h, fun _ h => h.elim⟩

theorem St.rot {L1 L2 : List HP} (h : St w0 f0 (L1 ++ L2) w) : St w0 f0 (L2 ++ L1) w := by
  obtain ⟨f, hf, hfb⟩ := h.sf
  exact ⟨h.step, f, hf.swap, hfb⟩

/-- A call: the first pieces are handed over; what is behind them stays. -/
theorem St.call {L1 L2 : List HP} (h : St w0 f0 (L1 ++ L2) w) :
    ∃ f1 : FP, SF L1 w f1 ∧ (∀ b, f1 b → f0 b ∨ w0.heap.size ≤ b) ∧ ∀ (L' : List HP) (w' : World), St w f1 L' w' → St w0 f0 (L' ++ L2) w' := by
  obtain ⟨f, hf, hfb⟩ := h.sf
  obtain ⟨f1, f2, e1, e2, e3, e4⟩ := SF.app.1 hf
  have hb1 : ∀ b, f1 b → f0 b ∨ w0.heap.size ≤ b := fun b hb => hfb b ((e1 b).2 (.inl hb))
  refine ⟨f1, e3, hb1, fun L' w' ⟨hs, g, hg, hgb⟩ => ⟨h.step.trans hs hb1, fun b => g b ∨ f2 b, SF.app.2 ⟨g, f2, fun b => Iff.rfl, fun b hb hb2 => ?_, hg, e4.loc fun b hb => hs.keep b (e4.dom b hb) fun h1 => e2 b h1 hb⟩, ?_⟩⟩
  · rcases hgb b hb with h1 | h1
    · exact e2 b h1 hb2
    · exact absurd (e4.dom b hb2) (Nat.not_lt.2 h1)
  · rintro b (hb | hb)
    · rcases hgb b hb with h1 | h1
      · exact hb1 b h1
      · exact .inr (Nat.le_trans h.step.size h1)
    · exact hfb b ((e1 b).2 (.inr hb))

/-- A call that is handed nothing. -/
theorem St.call0 (h : St w0 f0 L w) : ∀ (L' : List HP) (w' : World), St w (fun _ => False) L' w' → St w0 f0 (L ++ L') w' := by
  intro L' w' h'
  obtain ⟨f, hf, hfb⟩ := h.sf
  obtain ⟨hs, g, hg, hgb⟩ := h'
  refine ⟨h.step.trans hs fun _ h => h.elim, fun b => f b ∨ g b, SF.app.2 ⟨f, g, fun b => Iff.rfl, fun b hb hb2 => ?_, hf.loc fun b hb => hs.keep b (hf.dom b hb) id, hg⟩, ?_⟩
  · rcases hgb b hb2 with h1 | h1
    · exact h1
    · exact absurd (hf.dom b hb) (Nat.not_lt.2 h1)
  · rintro b (hb | hb)
    · exact hfb b hb
    · rcases hgb b hb with h1 | h1
      · exact h1.elim
      · exact .inr (Nat.le_trans h.step.size h1)
end
end Go.Proofs.Ytfplmdjlgjgbgaa
