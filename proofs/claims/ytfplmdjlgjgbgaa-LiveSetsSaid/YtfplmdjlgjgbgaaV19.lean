/- Layer 15: later, plainly. -/
import Derived.Test.YtfplmdjlgjgbgaaV18
namespace Go.Proofs.Ytfplmdjlgjgbgaa
set_option linter.unusedVariables false
set_option linter.unusedSimpArgs false
open Go Go.RowKit

/-- The first place from k on that does something to a value. -/
def scanB (b : SsaBlock) (v : Int) (k : Nat) : Nat := (((List.range' k (b.fIns.xs.length + 1 - k)).map fun j => touchB b j v).find? fun x => decide (x ≠ 0)).getD 0
theorem scanB_step {b : SsaBlock} {v : Int} {k : Nat} (h : k ≤ b.fIns.xs.length) : scanB b v k = if touchB b k v = 0 then scanB b v (k + 1) else touchB b k v := by
  unfold scanB
  rw [show b.fIns.xs.length + 1 - k = (b.fIns.xs.length + 1 - (k + 1)) + 1 by omega, List.range'_succ, List.map_cons, List.find?_cons]
  by_cases h0 : touchB b k v = 0
  · rw [if_pos h0]; simp [h0]
  · rw [if_neg h0]; simp [h0]
theorem scanB_end {b : SsaBlock} {v : Int} : scanB b v (b.fIns.xs.length + 1) = 0 := by
  unfold scanB
  rw [Nat.sub_self]; rfl
theorem usesE_mem {e : SsaEnd} {v : Int} (hv : v ≠ 0) : v ∈ usesE e ↔ e.fVal = v ∨ ∃ w ∈ e.fWays.xs, v ∈ w.fArgs.xs := by
  unfold usesE
  rw [List.mem_append, List.mem_flatMap]
  constructor
  · rintro (h | h)
    · split at h
      · rw [List.mem_singleton] at h; exact .inl h.symm
      · cases h
    · exact .inr h
  · rintro (h | h)
    · refine .inl ?_
      rw [if_pos (by rw [h]; exact hv), h]
      simp
    · exact .inr h
theorem scan_live {b : SsaBlock} {v : Int} {out : Int → Bool} (hv : v ≠ 0) : ∀ d k, k + d = b.fIns.xs.length → (liveB b out k v = true ↔ scanB b v k = 1 ∨ scanB b v k = 0 ∧ out v = true)
  | 0, k, hd => by
    obtain rfl : k = b.fIns.xs.length := by omega
    rw [scanB_step (Nat.le_refl _), scanB_end, liveB_end]
    unfold touchB addL
    rw [if_neg (Nat.lt_irrefl _), Bool.or_eq_true, decide_eq_true_eq, usesE_mem hv]
    by_cases h : b.fEnd.fVal = v ∨ ∃ w ∈ b.fEnd.fWays.xs, v ∈ w.fArgs.xs
    · rw [if_pos h]; simp [h]
    · rw [if_neg h]; simp [h]
  | d + 1, k, hd => by
    have ih := scan_live (b := b) (out := out) hv d (k + 1) (by omega)
    have ht : touchB b k v = if v ∈ (nth b.fIns.xs k).fArgs.xs then 1 else if (nth b.fIns.xs k).fDst = v then 2 else 0 := by
      unfold touchB; rw [if_pos (by omega)]
    rw [scanB_step (by omega), liveB_step (by omega), ht]
    unfold stepI addL
    rw [Bool.or_eq_true, decide_eq_true_eq, Bool.and_eq_true, ih]
    by_cases h1 : v ∈ (nth b.fIns.xs k).fArgs.xs
    · simp [h1]
    · by_cases h2 : (nth b.fIns.xs k).fDst = v
      · simp [h1, h2]
      · have h3 : ¬ v = (nth b.fIns.xs k).fDst := fun e => h2 e.symm
        simp [h1, h2, h3]
/-- A search for a use: the ways gone of each block, what is seen, what is still to be gone on from, what was gone on from. -/
structure Sk (f : SsaFunc) (O : Nat → Int → Bool) (v : Int) (n : Nat) (W : Nat → List SsaEdge) (seen : List Bool) (q : List Int) (P : Nat → Prop) : Prop where
  sl : seen.length = f.fBlocks.xs.length
  qr : ∀ x ∈ q, 0 ≤ x ∧ x < f.fBlocks.xs.length ∧ (O x.toNat v = true → O n v = true)
  pop : ∀ x, P x → x < f.fBlocks.xs.length ∧ ∀ w ∈ W x, nth seen w.fTo.toNat = true
  dead : ∀ t, t < f.fBlocks.xs.length → nth seen t = true → v ∈ (nth f.fBlocks.xs t).fParams.xs ∨ scanB (nth f.fBlocks.xs t) v 0 = 2 ∨ scanB (nth f.fBlocks.xs t) v 0 = 0 ∧ (P t ∨ (t : Int) ∈ q)
  st : P n ∨ (n : Int) ∈ q
def waysQ (f : SsaFunc) (x : Nat) : List SsaEdge := (nth f.fBlocks.xs x).fEnd.fWays.xs
section
variable {f : SsaFunc} {I O : Nat → Int → Bool} {v : Int} {n : Nat} {W : Nat → List SsaEdge} {seen : List Bool} {q : List Int} {P : Nat → Prop}
theorem Sk.start (hn : n < f.fBlocks.xs.length) : Sk f O v n (waysQ f) (List.replicate f.fBlocks.xs.length false) [(n : Int)] fun _ => False :=
  ⟨List.length_replicate, fun x hx => by rw [List.mem_singleton] at hx; subst hx; exact ⟨by omega, by omega, id⟩, fun x hx => hx.elim, fun t ht hs => by
    have e : nth (List.replicate f.fBlocks.xs.length false) t = false := nth_rep
    rw [e] at hs
    exact absurd hs (by simp), .inr (by simp)⟩
theorem Sk.go {x : Int} (h : Sk f O v n W seen (x :: q) P) : Sk f O v n (updB W x.toNat []) seen q fun y => P y ∨ y = x.toNat := by
  obtain ⟨h1, h2, h3⟩ := h.qr x (by simp)
  have hx : (x.toNat : Int) = x := by omega
  refine ⟨h.sl, fun y hy => h.qr y (by simp [hy]), fun y hy => ?_, fun t ht hs => ?_, ?_⟩
  · by_cases e : y = x.toNat
    · subst e
      rw [updB_same]
      exact ⟨by omega, fun w hw => nomatch hw⟩
    · unfold updB
      rw [if_neg e]
      exact h.pop y (hy.resolve_right e)
  · rcases h.dead t ht hs with g | g | ⟨g, g2⟩
    · exact .inl g
    · exact .inr (.inl g)
    · refine .inr (.inr ⟨g, ?_⟩)
      rcases g2 with g2 | g2
      · exact .inl (.inl g2)
      · rcases List.mem_cons.1 g2 with g2 | g2
        · exact .inl (.inr (by omega))
        · exact .inr g2
  · rcases h.st with g2 | g2
    · exact .inl (.inl g2)
    · rcases List.mem_cons.1 g2 with g2 | g2
      · exact .inl (.inr (by omega))
      · exact .inr g2
theorem Sk.skip {W0 : Nat → List SsaEdge} {x j : Nat} (h : Sk f O v n (updB W0 x ((waysQ f x).take j)) seen q P) (hj : j < (waysQ f x).length) (hs : nth seen (nth (waysQ f x) j).fTo.toNat = true) : Sk f O v n (updB W0 x ((waysQ f x).take (j + 1))) seen q P := by
  refine ⟨h.sl, h.qr, fun y hy => ?_, h.dead, h.st⟩
  obtain ⟨h1, h2⟩ := h.pop y hy
  refine ⟨h1, fun w hw => ?_⟩
  by_cases e : y = x
  · subst e
    rw [updB_same] at hw h2
    rw [← take_nth hj] at hw
    rcases List.mem_append.1 hw with hw | hw
    · exact h2 w hw
    · rw [List.mem_singleton] at hw
      rw [hw]; exact hs
  · unfold updB at hw h2
    rw [if_neg e] at hw h2
    exact h2 w hw
/-- A block is seen. -/
theorem Sk.see {t : Nat} {q' : List Int} (h : Sk f O v n W seen q P) (ht : t < f.fBlocks.xs.length) (hq : q' = q ∨ q' = q ++ [(t : Int)]) (hqt : q' = q ++ [(t : Int)] → (O t v = true → O n v = true))
    (hd : v ∈ (nth f.fBlocks.xs t).fParams.xs ∨ scanB (nth f.fBlocks.xs t) v 0 = 2 ∨ scanB (nth f.fBlocks.xs t) v 0 = 0 ∧ (t : Int) ∈ q') : Sk f O v n W (seen.set t true) q' P := by
  have hsl := h.sl
  have hsub : ∀ y, y ∈ q → y ∈ q' := fun y hy => by rcases hq with rfl | rfl <;> simp [hy]
  refine ⟨by rw [List.length_set]; exact hsl, fun y hy => ?_, fun y hy => ?_, fun u hu hs => ?_, h.st.imp id (hsub _)⟩
  · by_cases hyq : y ∈ q
    · exact h.qr y hyq
    · rcases hq with rfl | e
      · exact absurd hy hyq
      · have hy' := hy
        rw [e] at hy'
        rcases List.mem_append.1 hy' with g | g
        · exact absurd g hyq
        · rw [List.mem_singleton] at g
          subst g
          exact ⟨by omega, by omega, hqt e⟩
  · obtain ⟨h1, h2⟩ := h.pop y hy
    refine ⟨h1, fun w hw => ?_⟩
    rw [nth_set (by rw [hsl]; exact ht)]
    split
    · rfl
    · exact h2 w hw
  · rw [nth_set (by rw [hsl]; exact ht)] at hs
    by_cases e : u = t
    · subst e
      exact hd.imp id (Or.imp id (And.imp id .inr))
    · rw [if_neg e] at hs
      exact (h.dead u hu hs).imp id (Or.imp id (And.imp id (Or.imp id (hsub _))))
/-- What is used in a way's target is used behind its source. -/
theorem use_back {x : Nat} {w : SsaEdge} (hQ : FixQ f I O) (hv : v ≠ 0) (hx : x < f.fBlocks.xs.length) (hw : w ∈ waysQ f x) (h0 : 0 ≤ w.fTo) (h1 : w.fTo < f.fBlocks.xs.length) (hp : v ∉ (nth f.fBlocks.xs w.fTo.toNat).fParams.xs)
    (h : scanB (nth f.fBlocks.xs w.fTo.toNat) v 0 = 1 ∨ scanB (nth f.fBlocks.xs w.fTo.toNat) v 0 = 0 ∧ O w.fTo.toNat v = true) : O x v = true := by
  refine (hQ.at_ x hx).2 v ⟨w, hw, h0, h1, ?_, hp⟩
  rw [(hQ.at_ w.fTo.toNat (by omega)).1]
  exact (scan_live hv _ 0 (Nat.zero_add _)).2 h
end
theorem updB_ways {f : SsaFunc} {x : Nat} : updB (waysQ f) x ((waysQ f x).take (waysQ f x).length) = waysQ f := by
  funext y
  unfold updB
  split
  · rename_i e; subst e; rw [List.take_length]
  · rfl
/-- Where nothing is left to go on from it is not used. -/
theorem Sk.none {f : SsaFunc} {I O : Nat → Int → Bool} {v : Int} {n : Nat} {seen : List Bool} {P : Nat → Prop} (hQ : FixQ f I O) (hv : v ≠ 0) (h : Sk f O v n (waysQ f) seen [] P) : O n v = false := by
  have hn : P n := h.st.elim id fun h => nomatch h
  classical
  let D : Nat → Prop := fun t => t < f.fBlocks.xs.length ∧ nth seen t = true ∧ v ∉ (nth f.fBlocks.xs t).fParams.xs
  have hc : ClosedQ f (fun b k => I b k && !decide (k = v ∧ D b)) (fun b k => O b k && !decide (k = v ∧ P b)) := fun b hb => by
    obtain ⟨c1, c2⟩ := hQ.closed b hb
    refine ⟨fun k hk => ?_, fun k hk => ?_⟩
    · obtain ⟨w, h1, h2, h3, h4, h5⟩ := hk
      have h4 : (I w.fTo.toNat k && !decide (k = v ∧ D w.fTo.toNat)) = true := h4
      rw [Bool.and_eq_true] at h4
      show (O b k && !decide (k = v ∧ P b)) = true
      rw [Bool.and_eq_true]
      refine ⟨c1 k ⟨w, h1, h2, h3, h4.1, h5⟩, ?_⟩
      have h6 := h4.2
      rw [Bool.not_eq_true', decide_eq_false_iff_not] at h6 ⊢
      rintro ⟨rfl, hp⟩
      exact h6 ⟨rfl, by omega, (h.pop b hp).2 w h1, h5⟩
    · have hk : liveB (nth f.fBlocks.xs b) (fun k => O b k && !decide (k = v ∧ P b)) 0 k = true := hk
      show (I b k && !decide (k = v ∧ D b)) = true
      rw [Bool.and_eq_true]
      refine ⟨c2 k (liveB_mono (fun k hk => by rw [Bool.and_eq_true] at hk; exact hk.1) 0 k hk), ?_⟩
      rw [Bool.not_eq_true', decide_eq_false_iff_not]
      rintro ⟨rfl, hd1, hd2, hd3⟩
      rw [scan_live hv _ 0 (Nat.zero_add _)] at hk
      rcases h.dead b hd1 hd2 with h7 | h7 | ⟨h7, h8⟩
      · exact hd3 h7
      · rcases hk with hk | hk <;> omega
      · have hp : P b := h8.elim id fun h => nomatch h
        rcases hk with hk | ⟨_, hk⟩
        · omega
        · rw [Bool.and_eq_true, Bool.not_eq_true', decide_eq_false_iff_not] at hk
          exact hk.2 ⟨rfl, hp⟩
  cases hO : O n v with
  | false => rfl
  | true =>
    have := (hQ.inv.least _ _ hc n (h.pop n hn).1).2 v hO
    rw [Bool.and_eq_true, Bool.not_eq_true', decide_eq_false_iff_not] at this
    exact absurd ⟨rfl, hn⟩ this.2
end Go.Proofs.Ytfplmdjlgjgbgaa
