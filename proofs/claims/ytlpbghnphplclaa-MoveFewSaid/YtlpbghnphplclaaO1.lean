/- Moves that come in, opened. -/
import Derived.Test.YtlpbghnphplclaaKo
import Derived.Test.YtlpbghnphplclaaM5
namespace Go.Proofs.Ytlpbghnphplclaa
set_option linter.unusedVariables false
set_option linter.unusedSimpArgs false
open Go Go.RowKit Go.Maps Go.WideElems Go.ChangeShapes Go.WideShapes Go.Deep

section
variable {H : Type} {enc : TypeId × Value → H} {W : World}
theorem open_mvs {A : Option Addr} {len cap : Nat} {d : DataW H} {p : List MemPlace} (h : DataW.Trod enc Try.prog W 0 (fun _ => true) true 22 (.slice A len cap) d p) :
    ∃ xs : List Mv, xs.length = len ∧ RdS (okOf W fun _ => False) W A len cap 2 (mvs xs) ∧ ∀ m ∈ xs, wfm m := by
  obtain ⟨fuel, hf⟩ := h
  rcases open_slice U_22 hf with ⟨hcs, _⟩ | ⟨a, l, c, m, n, D, Pl, hcs, _, hl, hm, hmm, _, hi⟩
  · simp [Value.cells] at hcs
    obtain ⟨rfl, rfl, rfl⟩ := hcs
    exact ⟨[], rfl, ⟨rfl, Nat.le_refl _, Nat.zero_le _, .inl rfl⟩, fun m hm => by cases hm⟩
  · simp [Value.cells] at hcs
    obtain ⟨rfl, rfl, rfl⟩ := hcs
    simp only [if_true] at hmm
    subst hmm
    have hC : Try.prog.cellsOf 29 = 2 := by kernel_rfl
    have hone : oneCellFields Try.prog #[fd_29_0, fd_29_1] = true := by kernel_rfl
    have each : ∀ i, i < len → ∃ m : Mv, wfm m ∧ W.cell? (a.add (i * 2)) = some (.int .i64 m.to) ∧ W.cell? (a.add (i * 2 + 1)) = some (.int .i64 m.fr) := by
      intro i hil
      obtain ⟨cs', hc, ht'⟩ := hi i (by omega)
      rw [hC] at hc
      obtain ⟨ys, n', hn', hy, hlen, hyl, hfd⟩ := DataW.trod_struct U_29 ht'
      obtain ⟨_, hcl, hat⟩ := World.cells?_some hc
      have get : ∀ (j : Nat) (f : Field), (#[fd_29_0, fd_29_1])[j]? = some f → j < 2 → Try.prog.underlying f.type = some (.int .i64) → ∃ x, wfi x ∧ W.cell? (a.add (i * 2 + j)) = some (.int .i64 x) := by
        intro j f hj hj2 hp
        obtain ⟨ho, hk⟩ := hone_of hone j f hj
        have h1 := hfd j f hj
        have hv : cs'[j]? = some (cs'[j]'(by omega)) := List.getElem?_eq_getElem (by omega)
        rw [ho, hk] at h1
        have hone' : (cs'.drop j).take 1 = [cs'[j]'(by omega)] := by
          rw [List.drop_eq_getElem_cons (by omega)]; rfl
        rw [hone'] at h1
        have hys : ys[j]? = some (ys[j]'(by rw [hyl]; exact hj2)) := List.getElem?_eq_getElem _
        rw [hys] at h1
        obtain ⟨x, hx, _, hw⟩ := DataW.trod_int hp h1
        refine ⟨x, wfi_iff.2 hw, ?_⟩
        have := hat j (by omega)
        rw [add_add'] at this
        rw [this, hv]
        simpa [Value.cells] using hx
      obtain ⟨x, hx, hcx⟩ := get 0 fd_29_0 rfl (by omega) U_3
      obtain ⟨y, hy', hcy⟩ := get 1 fd_29_1 rfl (by omega) U_3
      exact ⟨⟨x, y⟩, ⟨hx, hy'⟩, hcx, hcy⟩
    obtain ⟨xs, hxl, hx⟩ := list_of len each
    refine ⟨xs, hxl, ⟨by rw [mvs_len, hxl], hl, hm, ?_⟩, fun m hm => ?_⟩
    · by_cases h0 : len = 0
      · exact .inl h0
      · refine .inr ⟨a, rfl, ⟨?_, id⟩, fun j v hj => ?_⟩
        · obtain ⟨m, hm⟩ : ∃ m, xs[0]? = some m := ⟨_, List.getElem?_eq_getElem (by omega)⟩
          have := (hx 0 m hm).2.1
          have := cell_lt this
          rwa [add_block] at this
        · have hjl : j / 2 < xs.length := by
            have := (List.getElem?_eq_some_iff.1 hj).1
            rw [mvs_len] at this; omega
          obtain ⟨m, hm⟩ : ∃ m, xs[j / 2]? = some m := ⟨_, List.getElem?_eq_getElem hjl⟩
          obtain ⟨_, h1, h2⟩ := hx _ m hm
          rcases Nat.mod_two_eq_zero_or_one j with h | h
          · have e : j = j / 2 * 2 := by omega
            rw [e, mvs_to hm] at hj
            cases hj
            rw [e]; exact h1
          · have e : j = j / 2 * 2 + 1 := by omega
            rw [e, mvs_fr hm] at hj
            cases hj
            rw [e]; exact h2
    · obtain ⟨i, hi⟩ := List.getElem?_of_mem hm
      exact (hx i m hi).1
end
end Go.Proofs.Ytlpbghnphplclaa
