/- Layer 15: what can be come to; what is alive there is made, plainly. -/
import Derived.Test.YtfplmdjlgjgbgaaV21
namespace Go.Proofs.Ytfplmdjlgjgbgaa
set_option linter.unusedVariables false
set_option linter.unusedSimpArgs false
open Go Go.RowKit

structure GoW (n : Nat) (ws : List SsaEdge) (out : List Bool) (todo : List Int) (r : List Bool × List Int) : Prop where
  len : r.1.length = n
  td : ∀ t ∈ r.2, 0 ≤ t ∧ t < n
  cnt : cntF7 r.1 + r.2.length = cntF7 out + todo.length
  mono : ∀ x, nth out x = true → nth r.1 x = true
  keep : ∀ t ∈ todo, t ∈ r.2
  got : ∀ w ∈ ws, 0 ≤ w.fTo → w.fTo < n → nth r.1 w.fTo.toNat = true
  src : ∀ x, nth r.1 x = true → nth out x = true ∨ (x : Int) ∈ r.2 ∧ ∃ w ∈ ws, w.fTo = (x : Int) ∧ x < n
  new : ∀ t ∈ r.2, t ∈ todo ∨ ∃ w ∈ ws, w.fTo = t ∧ 0 ≤ t ∧ t < n
theorem goW7_ok {n : Nat} : ∀ {ws : List SsaEdge} {out : List Bool} {todo : List Int}, out.length = n → (∀ t ∈ todo, 0 ≤ t ∧ t < n) → GoW n ws out todo (goW7 n ws out todo)
  | [], out, todo, h1, h2 => ⟨h1, h2, rfl, fun _ h => h, fun _ h => h, fun w hw => (nomatch hw), fun x h => .inl h, fun t h => .inl h⟩
  | w :: ws, out, todo, h1, h2 => by
    by_cases hc : 0 ≤ w.fTo ∧ w.fTo < n ∧ nth out w.fTo.toNat = false
    · have e : goW7 n (w :: ws) out todo = goW7 n ws (out.set w.fTo.toNat true) (todo ++ [w.fTo]) := by
        rw [goW7, if_pos hc]
      rw [e]
      obtain ⟨c1, c2, c3⟩ := hc
      have hx : w.fTo.toNat < out.length := by omega
      have ih := goW7_ok (n := n) (ws := ws) (out := out.set w.fTo.toNat true) (todo := todo ++ [w.fTo]) (by rw [List.length_set]; exact h1) (fun t ht => by
        rcases List.mem_append.1 ht with ht | ht
        · exact h2 t ht
        · rw [List.mem_singleton] at ht; rw [ht]; exact ⟨c1, c2⟩)
      have hs : nth (out.set w.fTo.toNat true) w.fTo.toNat = true := by rw [nth_set hx, if_pos rfl]
      refine ⟨ih.len, ih.td, ?_, fun x h => ih.mono x ?_, fun t ht => ih.keep t (by simp [ht]), fun u hu a1 a2 => ?_, fun x h => ?_, fun t h => ?_⟩
      · have := ih.cnt
        have hk := cntF7_set hx c3
        rw [List.length_append, List.length_singleton] at this
        omega
      · rw [nth_set hx]
        split
        · rfl
        · exact h
      · rcases List.mem_cons.1 hu with rfl | hu
        · exact ih.mono _ hs
        · exact ih.got u hu a1 a2
      · rcases ih.src x h with g | ⟨g1, u, g2, g3⟩
        · rw [nth_set hx] at g
          split at g
          · rename_i e
            exact .inr ⟨ih.keep _ (by rw [e]; simp; omega), w, by simp, by omega, by omega⟩
          · exact .inl g
        · exact .inr ⟨g1, u, by simp [g2], g3⟩
      · rcases ih.new t h with g | ⟨u, g2, g3⟩
        · rcases List.mem_append.1 g with g | g
          · exact .inl g
          · rw [List.mem_singleton] at g
            exact .inr ⟨w, by simp, g.symm, by omega, by omega⟩
        · exact .inr ⟨u, by simp [g2], g3⟩
    · have e : goW7 n (w :: ws) out todo = goW7 n ws out todo := by
        rw [goW7, if_neg hc]
      rw [e]
      have ih := goW7_ok (n := n) (ws := ws) (out := out) (todo := todo) h1 h2
      refine ⟨ih.len, ih.td, ih.cnt, ih.mono, ih.keep, fun u hu a1 a2 => ?_, fun x h => ?_, fun t h => ?_⟩
      · rcases List.mem_cons.1 hu with rfl | hu
        · refine ih.mono _ ?_
          cases ho : nth out u.fTo.toNat with
          | true => rfl
          | false => exact absurd ⟨a1, a2, ho⟩ hc
        · exact ih.got u hu a1 a2
      · rcases ih.src x h with g | ⟨g1, u, g2, g3⟩
        · exact .inl g
        · exact .inr ⟨g1, u, by simp [g2], g3⟩
      · rcases ih.new t h with g | ⟨u, g2, g3⟩
        · exact .inl g
        · exact .inr ⟨u, by simp [g2], g3⟩
theorem reachL7_ok {f : SsaFunc} {Q : Nat → Prop} (hQ : ∀ x, x < f.fBlocks.xs.length → Q x → ∀ w ∈ waysQ f x, 0 ≤ w.fTo → w.fTo < f.fBlocks.xs.length → Q w.fTo.toNat) :
    ∀ {k : Nat} {out : List Bool} {todo : List Int}, out.length = f.fBlocks.xs.length → (∀ t ∈ todo, 0 ≤ t ∧ t < f.fBlocks.xs.length) → cntF7 out + todo.length ≤ k →
      (∀ x, x < f.fBlocks.xs.length → nth out x = true → (x : Int) ∈ todo ∨ ∀ w ∈ waysQ f x, 0 ≤ w.fTo → w.fTo < f.fBlocks.xs.length → nth out w.fTo.toNat = true) →
      (∀ x, nth out x = true → Q x) → (∀ t ∈ todo, Q t.toNat) →
      (∀ x, nth out x = true → nth (reachL7 f k out todo) x = true) ∧ (∀ x, x < f.fBlocks.xs.length → nth (reachL7 f k out todo) x = true → ∀ w ∈ waysQ f x, 0 ≤ w.fTo → w.fTo < f.fBlocks.xs.length → nth (reachL7 f k out todo) w.fTo.toNat = true) ∧ ∀ x, nth (reachL7 f k out todo) x = true → Q x
  | k, out, [], _, _, _, hc, hq, _ => by
    have e : reachL7 f k out [] = out := by cases k <;> rfl
    rw [e]
    exact ⟨fun _ h => h, fun x hx h => (hc x hx h).resolve_left (by simp), hq⟩
  | 0, out, t :: todo, _, _, hk, _, _, _ => by simp at hk
  | k + 1, out, t :: todo, hl, ht, hk, hc, hq, hqt => by
    have g := goW7_ok (n := f.fBlocks.xs.length) (ws := waysQ f t.toNat) (out := out) (todo := todo) hl fun x hx => ht x (by simp [hx])
    have e : reachL7 f (k + 1) out (t :: todo) = reachL7 f k (goW7 f.fBlocks.xs.length (waysQ f t.toNat) out todo).1 (goW7 f.fBlocks.xs.length (waysQ f t.toNat) out todo).2 := rfl
    rw [e]
    obtain ⟨ht0, ht1⟩ := ht t (by simp)
    have hqt0 : Q t.toNat := hqt t (by simp)
    have hsrc : ∀ x, nth (goW7 f.fBlocks.xs.length (waysQ f t.toNat) out todo).1 x = true → Q x := fun x hx => by
      rcases g.src x hx with h | ⟨_, w, hw, hwx, hxn⟩
      · exact hq x h
      · have := hQ t.toNat (by omega) hqt0 w hw (by omega) (by omega)
        rw [hwx] at this
        exact this
    have htd : ∀ u ∈ (goW7 f.fBlocks.xs.length (waysQ f t.toNat) out todo).2, Q u.toNat := fun u hu => by
      rcases g.new u hu with h | ⟨w, hw, hwx, h0, hn⟩
      · exact hqt u (by simp [h])
      · have := hQ t.toNat (by omega) hqt0 w hw (by omega) (by omega)
        rw [hwx] at this
        exact this
    obtain ⟨a1, a2, a3⟩ := reachL7_ok hQ (k := k) g.len g.td (by
        have := g.cnt
        simp only [List.length_cons] at hk
        omega) (fun x hx h => by
        rcases g.src x h with h1 | ⟨h1, _⟩
        · rcases hc x hx h1 with h2 | h2
          · rcases List.mem_cons.1 h2 with h3 | h3
            · refine .inr fun w hw b1 b2 => g.got w ?_ b1 b2
              have : t.toNat = x := by omega
              rw [this]; exact hw
            · exact .inl (g.keep _ h3)
          · exact .inr fun w hw b1 b2 => g.mono _ (h2 w hw b1 b2)
        · exact .inl h1) hsrc htd
    exact ⟨fun x h => a1 x (g.mono x h), a2, a3⟩
/-- What can be come to: closed under ways, and no more than that. -/
theorem reach7_ok {f : SsaFunc} (h0 : 0 < f.fBlocks.xs.length) : nth (reachB7 f) 0 = true ∧ (∀ x, x < f.fBlocks.xs.length → nth (reachB7 f) x = true → ∀ w ∈ waysQ f x, 0 ≤ w.fTo → w.fTo < f.fBlocks.xs.length → nth (reachB7 f) w.fTo.toNat = true) ∧
    ∀ Q : Nat → Prop, Q 0 → (∀ x, x < f.fBlocks.xs.length → Q x → ∀ w ∈ waysQ f x, 0 ≤ w.fTo → w.fTo < f.fBlocks.xs.length → Q w.fTo.toNat) → ∀ x, nth (reachB7 f) x = true → Q x := by
  have hl : (List.replicate f.fBlocks.xs.length false).length = f.fBlocks.xs.length := List.length_replicate
  have hs : ∀ x, nth ((List.replicate f.fBlocks.xs.length false).set 0 true) x = true ↔ x = 0 := fun x => by
    rw [nth_set (by rw [hl]; exact h0)]
    split
    · rename_i e; simp [e]
    · rename_i e
      rw [show nth (List.replicate f.fBlocks.xs.length false) x = false from nth_rep]
      simp [e]
  have hcn : cntF7 ((List.replicate f.fBlocks.xs.length false).set 0 true) + 1 = f.fBlocks.xs.length := by
    rw [cntF7_set (i := 0) (out := List.replicate f.fBlocks.xs.length false) (by simp; omega) (nth_rep (α := Bool)), cntF7_rep]
  have key : ∀ Q : Nat → Prop, Q 0 → (∀ x, x < f.fBlocks.xs.length → Q x → ∀ w ∈ waysQ f x, 0 ≤ w.fTo → w.fTo < f.fBlocks.xs.length → Q w.fTo.toNat) → _ := fun Q q0 hQ =>
    reachL7_ok (f := f) (Q := Q) hQ (k := f.fBlocks.xs.length) (out := (List.replicate f.fBlocks.xs.length false).set 0 true) (todo := [0]) (by rw [List.length_set, hl]) (fun t ht => by rw [List.mem_singleton] at ht; omega) (by simp only [List.length_singleton]; omega)
      (fun x hx h => .inl (by rw [(hs x).1 h]; simp)) (fun x h => by rw [(hs x).1 h]; exact q0) (fun t ht => by rw [List.mem_singleton] at ht; rw [ht]; exact q0)
  have e : reachB7 f = reachL7 f f.fBlocks.xs.length ((List.replicate f.fBlocks.xs.length false).set 0 true) [0] := by
    unfold reachB7; rw [if_neg (by omega)]
  rw [e]
  obtain ⟨a1, a2, _⟩ := key (fun _ => True) trivial (fun _ _ _ _ _ _ _ => trivial)
  exact ⟨a1 0 ((hs 0).2 rfl), a2, fun Q q0 hQ => (key Q q0 hQ).2.2⟩
/-- What Check says of a function. -/
structure GoodF (f : SsaFunc) : Prop where
  n0 : 0 < f.fBlocks.xs.length
  ends : ∀ i, i < f.fBlocks.xs.length → endsB f (nth f.fBlocks.xs i).fEnd = true
  used : ∀ n, n < f.fBlocks.xs.length → usedAt f (known7 f) n = true
  nodup : (madeAll f.fBlocks.xs).Nodup
  pos : ∀ v ∈ madeAll f.fBlocks.xs, 0 < v
theorem good_of {p : SsaProg} (h : checkB p = true) {i : Nat} (hi : i < p.fFuncs.xs.length) : GoodF (nth p.fFuncs.xs i) := by
  unfold checkB at h
  rw [Bool.and_eq_true, List.all_eq_true] at h
  have h := h.2 _ (nth_mem hi)
  unfold fnB at h
  simp only [Bool.and_eq_true, decide_eq_true_eq, List.all_eq_true] at h
  obtain ⟨⟨⟨⟨h1, _⟩, h2⟩, h3⟩, h4⟩ := h
  unfold onceB at h2
  simp only [Bool.and_eq_true, decide_eq_true_eq, List.all_eq_true] at h2
  refine ⟨h1, fun j hj => ?_, fun n hn => h4 n (List.mem_range.2 hn), h2.2, fun v hv => h2.1 v hv⟩
  have := h3 _ (nth_mem hj)
  unfold blkB at this
  rw [Bool.and_eq_true] at this
  exact this.1
section
variable {f : SsaFunc} (hG : GoodF f)
include hG
theorem GoodF.way {b : Nat} (hb : b < f.fBlocks.xs.length) : ∀ w ∈ waysQ f b, 0 ≤ w.fTo ∧ w.fTo < f.fBlocks.xs.length := fun w hw => by
  have := ends_to (hG.ends b hb) hw
  omega
theorem GoodF.reach {b : Nat} (hb : b < f.fBlocks.xs.length) (hr : nth (reachB7 f) b = true) : ∀ w ∈ waysQ f b, nth (reachB7 f) w.fTo.toNat = true := fun w hw => by
  obtain ⟨h1, h2⟩ := hG.way hb w hw
  exact (reach7_ok hG.n0).2.1 b hb hr w hw h1 h2
theorem GoodF.set {b : Nat} (hr : nth (reachB7 f) b = true) : ∃ p, (known7 f).pos[b]?.join = some p := by
  have hK := (known7_kept hG.ends).2
  refine ((reach7_ok hG.n0).2.2 (fun b => nth (reachB7 f) b = true ∧ ∃ p, (known7 f).pos[b]?.join = some p) ⟨(reach7_ok hG.n0).1, ?_⟩ ?_ b hr).2
  · obtain ⟨p, h, _⟩ := hK 0 hG.n0 (reach7_ok hG.n0).1 (.inl rfl)
    exact ⟨p, h⟩
  · rintro x hx ⟨hq, p, hp⟩ w hw h0 h1
    refine ⟨hG.reach hx hq w hw, ?_⟩
    obtain ⟨p, _, h⟩ := hK x hx hq (.inr (by rw [hp]; simp))
    obtain ⟨p', h, _⟩ := h w hw
    exact ⟨p', h⟩
theorem GoodF.made {I O : Nat → Int → Bool} (hQ : FixQ f I O) {b : Nat} (hb : b < f.fBlocks.xs.length) (hr : nth (reachB7 f) b = true) : (∀ k, I b k = true → k ∈ madeAll f.fBlocks.xs) ∧ ∀ k, O b k = true → k ∈ madeAll f.fBlocks.xs := by
  obtain ⟨p, hp⟩ := hG.set hr
  obtain ⟨hO, _⟩ := known7_kept hG.ends
  have hl : ∀ k ∈ (known7 f).ls.getD p [], k ∈ madeAll f.fBlocks.xs := fun k hk => by
    have hp : p < (known7 f).ls.length := hO.2.1 p (by
      cases e : (known7 f).pos[b]? with
      | none => rw [e] at hp; cases hp
      | some o => rw [e] at hp; have : o = some p := hp; exact this ▸ List.mem_of_getElem? e)
    rw [List.getD_eq_getElem?_getD, List.getElem?_eq_getElem hp] at hk
    exact hO.2.2 _ (List.getElem_mem hp) k hk
  have hm : ∀ k ∈ madeB (nth f.fBlocks.xs b), k ∈ madeAll f.fBlocks.xs := fun k hk => List.mem_flatMap.2 ⟨_, nth_mem hb, hk⟩
  obtain ⟨h1, h2⟩ := alive_known hQ hG.ends hG.used (fun b hb hr => hG.reach hb hr) hb hr hp
  refine ⟨fun k hk => ?_, fun k hk => ?_⟩
  · rcases List.mem_append.1 (h1 k hk) with h | h
    · exact hl k h
    · exact hm k (List.mem_append_left _ h)
  · rcases List.mem_append.1 (h2 k hk) with h | h
    · exact hl k h
    · exact hm k h
end
/-- How many of the keys there are, of a list without doubles. -/
theorem card_of {ks us : List Int} {p : Int → Bool} (hk : ks.Nodup) (hm : ∀ k, k ∈ ks ↔ setP p k ≠ none) (hu : us.Nodup) (hin : ∀ k, p k = true → k ∈ us) : ks.length = (us.filter p).length := by
  refine Nat.le_antisymm (nodup_le hk fun k h => ?_) (nodup_le (hu.filter _) fun k h => ?_)
  · have := (setP_ne p k).1 ((hm k).1 h)
    exact List.mem_filter.2 ⟨hin k this, this⟩
  · exact (hm k).2 ((setP_ne p k).2 (List.mem_filter.1 h).2)
theorem FixQ.ctr {f : SsaFunc} {I O : Nat → Int → Bool} (h : FixQ f I O) {b : Nat} (hb : b < f.fBlocks.xs.length) (k : Int) : O b k = true ↔ Ctr f I b k := ⟨h.inv.sound b hb k, (h.at_ b hb).2 k⟩
end Go.Proofs.Ytfplmdjlgjgbgaa
