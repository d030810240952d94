/- Layer 7: many maps in one piece. -/
import Derived.Test.YtfplmdjlgjgbgaaS4
import Derived.Test.YtfplmdjlgjgbgaaS9
namespace Go.Proofs.Ytfplmdjlgjgbgaa
set_option linter.unusedVariables false
set_option linter.unusedSimpArgs false
open Go Go.RowKit

/-- A map that lies in block id: at most n entries, the set l. -/
structure Mp7 where
  id : Nat
  n : Nat
  l : List Int
noncomputable def Mp7.hp (m : Mp7) : HP := mp EB 3 m.id m.n (setF m.l)
noncomputable def bag7 (ms : List Mp7) : HP := star (ms.map Mp7.hp)
theorem map_eraseIdx7 {α β : Type} (f : α → β) : ∀ (l : List α) (j : Nat), (l.map f).eraseIdx j = (l.eraseIdx j).map f
  | [], _ => by simp
  | x :: l, 0 => rfl
  | x :: l, j + 1 => by simp only [List.map_cons, List.eraseIdx_cons_succ, map_eraseIdx7 f l j]
section
variable {w0 : World} {f0 : FP} {L : List HP} {ms : List Mp7} {j : Nat}
theorem PSub.bagNil : PSub w0 f0 L (bag7 [] :: L) := fun w H => H.star0.head
theorem PSub.bagOut (hj : j < ms.length) : PSub w0 f0 (bag7 ms :: L) (mp EB 3 ms[j].id ms[j].n (setF ms[j].l) :: bag7 (ms.eraseIdx j) :: L) := by
  intro w H
  have := H.pull 0 (Ls := ms.map Mp7.hp) rfl j (R := ms[j].hp) (by simp [hj])
  rw [map_eraseIdx7] at this
  exact this.head
theorem PSub.bagIn (m : Mp7) (hj : j < ms.length) : PSub w0 f0 (mp EB 3 m.id m.n (setF m.l) :: bag7 (ms.eraseIdx j) :: L) (bag7 (ms.set j m) :: L) := by
  intro w H
  have h1 := H.last
  have := h1.push (R := m.hp) 0 (Ls := ms.map Mp7.hp) j (by rw [map_eraseIdx7]; rfl) (by simpa using hj)
  rw [← List.map_set] at this
  exact this
theorem PSub.bagNew (m : Mp7) : PSub w0 f0 (mp EB 3 m.id m.n (setF m.l) :: bag7 ms :: L) (bag7 (ms ++ [m]) :: L) := by
  intro w H
  have h1 := H.last
  have := h1.more (R := m.hp) 0 (Ls := ms.map Mp7.hp) rfl
  have e : star (ms.map Mp7.hp ++ [m.hp]) = bag7 (ms ++ [m]) := by unfold bag7; rw [List.map_append]; rfl
  rw [e] at this
  exact this
/-- Two maps lie apart. -/
theorem mp_ne {a b na nb : Nat} {la lb : List Int} {w : World} (H : St w0 f0 (mp EB 3 a na (setF la) :: mp EB 3 b nb (setF lb) :: L) w) : a ≠ b := by
  obtain ⟨f, ⟨f1, f2, e1, e2, h1, h2⟩, _⟩ := H.sf
  obtain ⟨g1, g2, k1, k2, h3, h4⟩ := h2
  intro e
  subst e
  exact e2 a ((h1.1 a).2 rfl) ((k1 a).2 (.inl ((h3.1 a).2 rfl)))
end

/-! what known computes, plainly -/
/-- Where each block's set lies among the sets (none: nil), and the sets. -/
structure Kn7 where
  pos : List (Option Nat)
  ls : List (List Int)
def meet7 (s : Kn7) (n q : Nat) : Bool × Kn7 :=
  match s.pos[n]?.join with
  | none => (true, { s with pos := s.pos.set n (some q) })
  | some p => if p = q then (false, s) else (decide (∃ k ∈ s.ls.getD p [], k ∉ s.ls.getD q []), { s with ls := s.ls.set p (meetB (s.ls.getD p []) (s.ls.getD q [])) })

def lossB (l' l : List Int) : Bool := decide (∃ k ∈ l', k ∉ l)
def idsOf (ms : List Mp7) (pos : List (Option Nat)) : List Mr := pos.map fun p => ⟨p.map fun q => (ms.map (·.id)).getD q 0⟩
theorem idsOf_congr {ms ms' : List Mp7} (h : ms'.map (·.id) = ms.map (·.id)) (pos : List (Option Nat)) : idsOf ms' pos = idsOf ms pos := by unfold idsOf; rw [h]
theorem idsOf_len (ms : List Mp7) (pos : List (Option Nat)) : (idsOf ms pos).length = pos.length := by simp [idsOf]
theorem idsOf_nth {ms : List Mp7} {pos : List (Option Nat)} {n : Nat} (h : n < pos.length) : nth (idsOf ms pos) n = ⟨pos[n].map fun q => (ms.map (·.id)).getD q 0⟩ := by
  rw [nth_get (by rw [idsOf_len]; exact h)]; simp [idsOf]
section
variable {w0 : World} {f0 : FP} {L : List HP} {a b c : HP}
theorem PSub.swap : PSub w0 f0 (a :: b :: L) (b :: a :: L) := fun w H => by
  have := H.pick [1]; exact this
theorem PSub.roll : PSub w0 f0 (a :: b :: c :: L) (b :: c :: a :: L) := fun w H => by
  have := H.pick [1, 1]; exact this
variable {n : Nat} {ops : Array Oper} {m : Bool} {lo : List Oper} {QC : Exit → Fr → World → Prop} {f : Fr}
theorem so_ne {x y nx ny : Nat} {lx ly : List Int} (h : x ≠ y → sO Try.prog n w0 f0 ops m lo QC f (mp EB 3 x nx (setF lx) :: mp EB 3 y ny (setF ly) :: L)) : sO Try.prog n w0 f0 ops m lo QC f (mp EB 3 x nx (setF lx) :: mp EB 3 y ny (setF ly) :: L) :=
  fun w H => h (mp_ne H) w H
variable {rest : List Oper} {ty : TypeId} {pos' : String} {after : Array Edge}
theorem s_meet {d : Option Tmp} {la : List Operand} {ats : Array TypeId} {A : Option Addr} {cc : Nat} {pos : List (Option Nat)} {ms : List Mp7} {k q : Nat} (hv : la.map (ev f) = [.slice A pos.length cc, .int .i64 k, .map (some ((ms.map (·.id)).getD q 0))]) (hk : k < pos.length) (hl : pos.length < 1000000) (hq : q < ms.length) (hp : ∀ p, pos[k] = some p → p < ms.length)
    (hn : ∀ ms' : List Mp7, ms'.map (·.id) = ms.map (·.id) → ms'.map (·.n) = ms.map (·.n) → ms'.map (·.l) = (meet7 ⟨pos, ms.map (·.l)⟩ k q).2.ls → sO Try.prog n w0 f0 ops false rest QC (upO f d (.bool (meet7 ⟨pos, ms.map (·.l)⟩ k q).1)) (own 58 A pos.length cc (idsOf ms' (meet7 ⟨pos, ms.map (·.l)⟩ k q).2.pos) :: bag7 ms' :: L))
    (hd : dOk n d = true := by rfl) : sO Try.prog n w0 f0 ops false (⟨d, .call { callee := .value (.func 44), args := la.toArray, argTypes := ats }, ty, pos', after, none⟩ :: rest) QC f (own 58 A pos.length cc (idsOf ms pos) :: bag7 ms :: L) := by
  have hlen := idsOf_len ms pos
  have hid : (ms.map (·.id)).getD q 0 = ms[q].id := by simp [hq]
  rw [hid] at hv
  cases hpk : pos[k] with
  | none =>
    have e1 : meet7 ⟨pos, ms.map (·.l)⟩ k q = (true, ⟨pos.set k (some q), ms.map (·.l)⟩) := by simp [meet7, hk, hpk]
    rw [← hlen]
    refine s_call [0] (meet_nil A cc (idsOf ms pos) k ms[q].id (by omega) (by omega) (by rw [idsOf_nth hk, hpk]; rfl)) (by rw [hlen]; exact hv) rfl (fun _ _ _ => trivial) ?_ hd
    rintro v L' ⟨rfl, rfl⟩
    have := hn ms rfl rfl (by rw [e1])
    rw [e1] at this
    have e2 : (idsOf ms pos).set k ⟨some ms[q].id⟩ = idsOf ms (pos.set k (some q)) := by
      unfold idsOf; rw [List.map_set, Option.map_some, hid]
    rw [e2, hlen]
    exact this
  | some p =>
    have hpl := hp p hpk
    have hnth : nth (idsOf ms pos) k = ⟨some ms[p].id⟩ := by
      rw [idsOf_nth hk, hpk]
      simp [hpl]
    by_cases hpq : p = q
    · subst hpq
      have e1 : meet7 ⟨pos, ms.map (·.l)⟩ k p = (false, ⟨pos, ms.map (·.l)⟩) := by simp [meet7, hk, hpk]
      refine so_sub PSub.swap (so_sub (PSub.bagOut hpl) ?_)
      rw [← hlen]
      refine s_call [2, 0] (meet_same A cc (idsOf ms pos) k ms[p].id ms[p].n ms[p].l (by omega) (by omega) hnth) (by rw [hlen]; exact hv) rfl (fun _ _ _ => trivial) ?_ hd
      rintro v L' ⟨rfl, rfl⟩
      refine so_sub PSub.roll (so_sub (PSub.bagIn ms[p] hpl) (so_sub PSub.swap ?_))
      rw [List.set_getElem_self]
      have := hn ms rfl rfl (by rw [e1])
      rw [e1] at this
      rw [hlen]
      exact this
    · obtain ⟨q', hq', hqe⟩ : ∃ q', ∃ h : q' < (ms.eraseIdx p).length, (ms.eraseIdx p)[q'] = ms[q] := by
        have hle : (ms.eraseIdx p).length = ms.length - 1 := List.length_eraseIdx_of_lt hpl
        by_cases h : q < p
        · exact ⟨q, by omega, by rw [List.getElem_eraseIdx]; simp [h]⟩
        · refine ⟨q - 1, by omega, ?_⟩
          rw [List.getElem_eraseIdx]
          have h1 : ¬ q - 1 < p := by omega
          simp only [h1]
          have h2 : q - 1 + 1 = q := by omega
          simp [h2]
      have e1 : meet7 ⟨pos, ms.map (·.l)⟩ k q = (lossB ms[p].l ms[q].l, ⟨pos, (ms.map (·.l)).set p (meetB ms[p].l ms[q].l)⟩) := by simp [meet7, lossB, hk, hpk, hpq, hq, hpl]
      refine so_sub PSub.swap (so_sub (PSub.bagOut hpl) (so_sub PSub.roll (so_sub (PSub.bagOut hq') ?_)))
      rw [hqe]
      refine so_sub (fun w H => H.pick [0, 2]) ?_
      refine so_ne fun hne => ?_
      rw [← hlen]
      refine s_call [3, 1, 0] (meet_other A cc (idsOf ms pos) k ms[q].id ms[p].id ms[q].n ms[p].n ms[q].l ms[p].l (by omega) (by omega) hnth (Ne.symm hne)) (by rw [hlen]; exact hv) rfl (fun _ _ _ => trivial) ?_ hd
      rintro v L' ⟨rfl, rfl⟩
      refine so_sub (fun w H => H.pick [2, 2]) ?_
      refine so_sub (PSub.bagIn ms[q] hq') ?_
      rw [← hqe, List.set_getElem_self, hqe]
      refine so_sub (fun w H => H.pick [2, 0]) ?_
      refine so_sub (PSub.bagIn ⟨ms[p].id, ms[p].n, meetB ms[p].l ms[q].l⟩ hpl) (so_sub PSub.swap ?_)
      have hI : (ms.set p ⟨ms[p].id, ms[p].n, meetB ms[p].l ms[q].l⟩).map (·.id) = ms.map (·.id) := by
        rw [List.map_set]; apply List.ext_getElem <;> simp
        intro i h1 h2
        rw [List.getElem_set]; split <;> simp_all
      have hN : (ms.set p ⟨ms[p].id, ms[p].n, meetB ms[p].l ms[q].l⟩).map (·.n) = ms.map (·.n) := by
        rw [List.map_set]; apply List.ext_getElem <;> simp
        intro i h1 h2
        rw [List.getElem_set]; split <;> simp_all
      have := hn (ms.set p ⟨ms[p].id, ms[p].n, meetB ms[p].l ms[q].l⟩) hI hN (by rw [e1, List.map_set])
      rw [e1, idsOf_congr hI] at this
      rw [hlen]
      exact this
end

/-- The ways of one block, met one by one with set q. -/
def ways7 (q : Nat) : List SsaEdge → Bool × Kn7 → Bool × Kn7
  | [], s => s
  | w :: ws, s => let r := meet7 s.2 w.fTo.toNat q; ways7 q ws (r.1 || s.1, r.2)
/-- One block. -/
def blk7 (f : SsaFunc) (r : List Bool) (n : Nat) (s : Bool × Kn7) : Bool × Kn7 :=
  if nth r n = false ∨ (0 < n ∧ s.2.pos[n]?.join = none) then s
  else
    let s1 : Bool × Kn7 := if s.2.pos[n]?.join = none then (true, ⟨s.2.pos.set n (some s.2.ls.length), s.2.ls ++ [[]]⟩) else s
    let l := s1.2.ls.getD (s1.2.pos[n]?.join.getD 0) []
    ways7 s1.2.ls.length (nth f.fBlocks.xs n).fEnd.fWays.xs (s1.1, ⟨s1.2.pos, s1.2.ls ++ [l ++ madeB (nth f.fBlocks.xs n)]⟩)
/-- One round over all blocks. -/
def round7 (f : SsaFunc) (r : List Bool) : Nat → Bool × Kn7 → Bool × Kn7
  | 0, s => s
  | n + 1, s => blk7 f r n (round7 f r n s)
def fix7 (f : SsaFunc) (r : List Bool) : Nat → Kn7 → Kn7
  | 0, s => s
  | k + 1, s => let t := round7 f r f.fBlocks.xs.length (false, s); if t.1 then fix7 f r k t.2 else t.2
/-- What known lets known: the fuel is more than the rounds it takes. -/
def known7 (f : SsaFunc) : Kn7 := fix7 f (reachB7 f) (f.fBlocks.xs.length * ((madeAll f.fBlocks.xs).length + 2) + 1) ⟨List.replicate f.fBlocks.xs.length none, []⟩

/-- How much can still be lost. -/
def left7 (U : List Int) (s : Kn7) : Nat := (s.pos.map fun p => match p with
  | none => U.length + 1
  | some q => (U.filter (· ∈ s.ls.getD q [])).length).sum

theorem sum_le7 {α : Type} {l : List α} {g h : α → Nat} (H : ∀ x ∈ l, g x ≤ h x) : (l.map g).sum ≤ (l.map h).sum := by
  induction l with
  | nil => exact Nat.le_refl _
  | cons a l ih =>
    simp only [List.map_cons, List.sum_cons]
    have := ih fun x hx => H x (by simp [hx])
    have := H a (by simp)
    omega
theorem sum_lt7 {α : Type} {l : List α} {g h : α → Nat} (H : ∀ x ∈ l, g x ≤ h x) {y : α} (hy : y ∈ l) (hlt : g y < h y) : (l.map g).sum < (l.map h).sum := by
  induction l with
  | nil => cases hy
  | cons a l ih =>
    simp only [List.map_cons, List.sum_cons]
    have h1 := sum_le7 (g := g) (h := h) (l := l) fun x hx => H x (by simp [hx])
    have h2 := H a (by simp)
    rcases List.mem_cons.1 hy with rfl | hy
    · omega
    · have := ih (fun x hx => H x (by simp [hx])) hy
      omega
theorem sum_set7 {α : Type} {v : α → Nat} {y : α} : ∀ {l : List α} {n : Nat} (h : n < l.length), ((l.set n y).map v).sum + v l[n] = (l.map v).sum + v y
  | a :: l, 0, _ => by simp only [List.set_cons_zero, List.map_cons, List.sum_cons, List.getElem_cons_zero]; omega
  | a :: l, n + 1, h => by
    have := sum_set7 (v := v) (y := y) (l := l) (n := n) (by simpa using h)
    simp only [List.set_cons_succ, List.map_cons, List.sum_cons, List.getElem_cons_succ]; omega

def valP7 (U : List Int) (ls : List (List Int)) (p : Option Nat) : Nat := match p with
  | none => U.length + 1
  | some q => (U.filter (· ∈ ls.getD q [])).length
theorem left7_eq {U : List Int} {s : Kn7} : left7 U s = (s.pos.map (valP7 U s.ls)).sum := rfl
theorem valP7_some {U : List Int} {ls : List (List Int)} {q : Nat} : valP7 U ls (some q) ≤ U.length := List.length_filter_le _ _
theorem filter_le7 {U a b : List Int} (h : ∀ x ∈ b, x ∈ a) : (U.filter (· ∈ b)).length ≤ (U.filter (· ∈ a)).length := by
  induction U with
  | nil => exact Nat.le_refl _
  | cons x U ih =>
    simp only [List.filter_cons]
    by_cases hb : x ∈ b
    · simp [hb, h x hb]; exact ih
    · by_cases ha : x ∈ a
      · simp [hb, ha]; omega
      · simp [hb, ha]; exact ih
theorem filter_lt7 {U a b : List Int} (h : ∀ x ∈ b, x ∈ a) {y : Int} (hU : y ∈ U) (ha : y ∈ a) (hb : y ∉ b) : (U.filter (· ∈ b)).length < (U.filter (· ∈ a)).length := by
  induction U with
  | nil => cases hU
  | cons x U ih =>
    have hle := filter_le7 (U := U) h
    simp only [List.filter_cons]
    rcases List.mem_cons.1 hU with rfl | hU
    · simp [ha, hb]; omega
    · have := ih hU
      by_cases hxb : x ∈ b
      · simp [hxb, h x hxb]; omega
      · by_cases hxa : x ∈ a
        · simp [hxb, hxa]; omega
        · simp [hxb, hxa]; omega
theorem meet7_same {s : Kn7} {n q : Nat} (h : (meet7 s n q).1 = false) : (meet7 s n q).2 = s := by
  unfold meet7 at h ⊢
  split at h
  · cases h
  · rename_i p hp
    split at h
    · rename_i e; simp [e]
    · rename_i e
      simp only [e, if_false]
      have h := of_decide_eq_false h
      have hf : meetB (s.ls.getD p []) (s.ls.getD q []) = s.ls.getD p [] := by
        unfold meetB
        rw [List.filter_eq_self]
        intro x hx
        exact decide_eq_true (Classical.byContradiction fun hn => h ⟨x, hx, hn⟩)
      rw [hf]
      by_cases hl : p < s.ls.length
      · have : s.ls.getD p [] = s.ls[p] := by simp [hl]
        rw [this, List.set_getElem_self]
      · rw [List.set_eq_of_length_le (by omega)]
theorem meet7_left {U : List Int} {s : Kn7} {n q : Nat} (hn : n < s.pos.length) (hU : ∀ l ∈ s.ls, ∀ x ∈ l, x ∈ U) (h : (meet7 s n q).1 = true) : left7 U (meet7 s n q).2 < left7 U s := by
  unfold meet7 at h ⊢
  split
  · rename_i hp
    have hp' : s.pos[n] = none := by simpa [hn] using hp
    rw [left7_eq, left7_eq]
    show ((s.pos.set n (some q)).map (valP7 U s.ls)).sum < _
    have := sum_set7 (v := valP7 U s.ls) (y := some q) hn
    rw [hp'] at this
    have h2 : valP7 U s.ls none = U.length + 1 := rfl
    have h3 := valP7_some (U := U) (ls := s.ls) (q := q)
    omega
  · rename_i p hp
    have hp' : s.pos[n] = some p := by simpa [hn] using hp
    split at h
    · rename_i heq; rw [hp] at heq; cases heq
    · rename_i p' hp2
      have : p' = p := by rw [hp] at hp2; exact (Option.some.inj hp2).symm
      subst this
      split at h
      · cases h
      · rename_i e
        simp only [e, if_false]
        obtain ⟨x, hx, hxq⟩ := of_decide_eq_true h
        have hl : p' < s.ls.length := by
          apply Classical.byContradiction
          intro hl
          have : s.ls.getD p' [] = [] := by simp [Nat.le_of_not_lt hl]
          rw [this] at hx; cases hx
        have hg : s.ls.getD p' [] ∈ s.ls := by
          have : s.ls.getD p' [] = s.ls[p'] := by simp [hl]
          rw [this]; exact List.getElem_mem hl
        have hsub : ∀ y ∈ meetB (s.ls.getD p' []) (s.ls.getD q []), y ∈ s.ls.getD p' [] := fun y hy => (List.mem_filter.1 hy).1
        rw [left7_eq, left7_eq]
        show (s.pos.map (valP7 U (s.ls.set p' (meetB (s.ls.getD p' []) (s.ls.getD q []))))).sum < _
        have hval : ∀ r, (s.ls.set p' (meetB (s.ls.getD p' []) (s.ls.getD q []))).getD r [] = if r = p' then meetB (s.ls.getD p' []) (s.ls.getD q []) else s.ls.getD r [] := by
          intro r
          by_cases hr : r = p'
          · subst hr; simp [hl]
          · simp [hr, List.getElem?_set_ne (Ne.symm hr)]
        refine sum_lt7 (fun o ho => ?_) (y := some p') (by rw [← hp']; exact List.getElem_mem hn) ?_
        · cases o with
          | none => exact Nat.le_refl _
          | some r =>
            by_cases e2 : r = p'
            · subst e2
              simp only [valP7, hval, if_true]
              exact filter_le7 hsub
            · simp only [valP7, hval, e2, if_false]
              exact Nat.le_refl _
        · simp only [valP7, hval, if_true]
          exact filter_lt7 hsub (hU _ hg x hx) hx fun hm => hxq (of_decide_eq_true (List.mem_filter.1 hm).2)
end Go.Proofs.Ytfplmdjlgjgbgaa
