/- Layer 7: meet over the bag. -/
import Derived.Test.YtboicgdblbfbeaaS10
namespace Go.Proofs.Ytboicgdblbfbeaa
set_option linter.unusedVariables false
set_option linter.unusedSimpArgs false
open Go Go.RowKit

def lossB (l' l : List Int) : Bool := decide (∃ k ∈ l', k ∉ l)
def idsOf (ms : List Mp7) (pos : List (Option Nat)) : List Mr := pos.map fun p => ⟨p.map fun q => (ms.map (·.id)).getD q 0⟩
theorem idsOf_congr {ms ms' : List Mp7} (h : ms'.map (·.id) = ms.map (·.id)) (pos : List (Option Nat)) : idsOf ms' pos = idsOf ms pos := by unfold idsOf; rw [h]
theorem idsOf_len (ms : List Mp7) (pos : List (Option Nat)) : (idsOf ms pos).length = pos.length := by simp [idsOf]
theorem idsOf_nth {ms : List Mp7} {pos : List (Option Nat)} {n : Nat} (h : n < pos.length) : nth (idsOf ms pos) n = ⟨pos[n].map fun q => (ms.map (·.id)).getD q 0⟩ := by
  rw [nth_get (by rw [idsOf_len]; exact h)]; simp [idsOf]
section
variable {w0 : World} {f0 : FP} {L : List HP} {a b c : HP}
theorem PSub.swap : PSub w0 f0 (a :: b :: L) (b :: a :: L) := fun w H => by
  have := H.pick [1]; exact this
theorem PSub.roll : PSub w0 f0 (a :: b :: c :: L) (b :: c :: a :: L) := fun w H => by
  have := H.pick [1, 1]; exact this
variable {n : Nat} {ops : Array Oper} {m : Bool} {lo : List Oper} {QC : Exit → Fr → World → Prop} {f : Fr}
theorem so_ne {x y nx ny : Nat} {lx ly : List Int} (h : x ≠ y → sO Try.prog n w0 f0 ops m lo QC f (mp EB 3 x nx (setF lx) :: mp EB 3 y ny (setF ly) :: L)) : sO Try.prog n w0 f0 ops m lo QC f (mp EB 3 x nx (setF lx) :: mp EB 3 y ny (setF ly) :: L) :=
  fun w H => h (mp_ne H) w H
variable {rest : List Oper} {ty : TypeId} {pos' : String} {after : Array Edge}
theorem s_meet {d : Option Tmp} {la : List Operand} {ats : Array TypeId} {A : Option Addr} {cc : Nat} {pos : List (Option Nat)} {ms : List Mp7} {k q : Nat} (hv : la.map (ev f) = [.slice A pos.length cc, .int .i64 k, .map (some ((ms.map (·.id)).getD q 0))]) (hk : k < pos.length) (hl : pos.length < 1000000) (hq : q < ms.length) (hp : ∀ p, pos[k] = some p → p < ms.length)
    (hn : ∀ ms' : List Mp7, ms'.map (·.id) = ms.map (·.id) → ms'.map (·.n) = ms.map (·.n) → ms'.map (·.l) = (meet7 ⟨pos, ms.map (·.l)⟩ k q).2.ls → sO Try.prog n w0 f0 ops false rest QC (upO f d (.bool (meet7 ⟨pos, ms.map (·.l)⟩ k q).1)) (own 63 A pos.length cc (idsOf ms' (meet7 ⟨pos, ms.map (·.l)⟩ k q).2.pos) :: bag7 ms' :: L))
    (hd : dOk n d = true := by rfl) : sO Try.prog n w0 f0 ops false (⟨d, .call { callee := .value (.func 30), args := la.toArray, argTypes := ats }, ty, pos', after, none⟩ :: rest) QC f (own 63 A pos.length cc (idsOf ms pos) :: bag7 ms :: L) := by
  have hlen := idsOf_len ms pos
  have hid : (ms.map (·.id)).getD q 0 = ms[q].id := by simp [hq]
  rw [hid] at hv
  cases hpk : pos[k] with
  | none =>
    have e1 : meet7 ⟨pos, ms.map (·.l)⟩ k q = (true, ⟨pos.set k (some q), ms.map (·.l)⟩) := by simp [meet7, hk, hpk]
    rw [← hlen]
    refine s_call [0] (meet_nil A cc (idsOf ms pos) k ms[q].id (by omega) (by omega) (by rw [idsOf_nth hk, hpk]; rfl)) (by rw [hlen]; exact hv) rfl (fun _ _ _ => trivial) ?_ hd
    rintro v L' ⟨rfl, rfl⟩
    have := hn ms rfl rfl (by rw [e1])
    rw [e1] at this
    have e2 : (idsOf ms pos).set k ⟨some ms[q].id⟩ = idsOf ms (pos.set k (some q)) := by
      unfold idsOf; rw [List.map_set, Option.map_some, hid]
    rw [e2, hlen]
    exact this
  | some p =>
    have hpl := hp p hpk
    have hnth : nth (idsOf ms pos) k = ⟨some ms[p].id⟩ := by
      rw [idsOf_nth hk, hpk]
      simp [hpl]
    by_cases hpq : p = q
    · subst hpq
      have e1 : meet7 ⟨pos, ms.map (·.l)⟩ k p = (false, ⟨pos, ms.map (·.l)⟩) := by simp [meet7, hk, hpk]
      refine so_sub PSub.swap (so_sub (PSub.bagOut hpl) ?_)
      rw [← hlen]
      refine s_call [2, 0] (meet_same A cc (idsOf ms pos) k ms[p].id ms[p].n ms[p].l (by omega) (by omega) hnth) (by rw [hlen]; exact hv) rfl (fun _ _ _ => trivial) ?_ hd
      rintro v L' ⟨rfl, rfl⟩
      refine so_sub PSub.roll (so_sub (PSub.bagIn ms[p] hpl) (so_sub PSub.swap ?_))
      rw [List.set_getElem_self]
      have := hn ms rfl rfl (by rw [e1])
      rw [e1] at this
      rw [hlen]
      exact this
    · obtain ⟨q', hq', hqe⟩ : ∃ q', ∃ h : q' < (ms.eraseIdx p).length, (ms.eraseIdx p)[q'] = ms[q] := by
        have hle : (ms.eraseIdx p).length = ms.length - 1 := List.length_eraseIdx_of_lt hpl
        by_cases h : q < p
        · exact ⟨q, by omega, by rw [List.getElem_eraseIdx]; simp [h]⟩
        · refine ⟨q - 1, by omega, ?_⟩
          rw [List.getElem_eraseIdx]
          have h1 : ¬ q - 1 < p := by omega
          simp only [h1]
          have h2 : q - 1 + 1 = q := by omega
          simp [h2]
      have e1 : meet7 ⟨pos, ms.map (·.l)⟩ k q = (lossB ms[p].l ms[q].l, ⟨pos, (ms.map (·.l)).set p (meetB ms[p].l ms[q].l)⟩) := by simp [meet7, lossB, hk, hpk, hpq, hq, hpl]
      refine so_sub PSub.swap (so_sub (PSub.bagOut hpl) (so_sub PSub.roll (so_sub (PSub.bagOut hq') ?_)))
      rw [hqe]
      refine so_sub (fun w H => H.pick [0, 2]) ?_
      refine so_ne fun hne => ?_
      rw [← hlen]
      refine s_call [3, 1, 0] (meet_other A cc (idsOf ms pos) k ms[q].id ms[p].id ms[q].n ms[p].n ms[q].l ms[p].l (by omega) (by omega) hnth (Ne.symm hne)) (by rw [hlen]; exact hv) rfl (fun _ _ _ => trivial) ?_ hd
      rintro v L' ⟨rfl, rfl⟩
      refine so_sub (fun w H => H.pick [2, 2]) ?_
      refine so_sub (PSub.bagIn ms[q] hq') ?_
      rw [← hqe, List.set_getElem_self, hqe]
      refine so_sub (fun w H => H.pick [2, 0]) ?_
      refine so_sub (PSub.bagIn ⟨ms[p].id, ms[p].n, meetB ms[p].l ms[q].l⟩ hpl) (so_sub PSub.swap ?_)
      have hI : (ms.set p ⟨ms[p].id, ms[p].n, meetB ms[p].l ms[q].l⟩).map (·.id) = ms.map (·.id) := by
        rw [List.map_set]; apply List.ext_getElem <;> simp
        intro i h1 h2
        rw [List.getElem_set]; split <;> simp_all
      have hN : (ms.set p ⟨ms[p].id, ms[p].n, meetB ms[p].l ms[q].l⟩).map (·.n) = ms.map (·.n) := by
        rw [List.map_set]; apply List.ext_getElem <;> simp
        intro i h1 h2
        rw [List.getElem_set]; split <;> simp_all
      have := hn (ms.set p ⟨ms[p].id, ms[p].n, meetB ms[p].l ms[q].l⟩) hI hN (by rw [e1, List.map_set])
      rw [e1, idsOf_congr hI] at this
      rw [hlen]
      exact this
end
end Go.Proofs.Ytboicgdblbfbeaa
