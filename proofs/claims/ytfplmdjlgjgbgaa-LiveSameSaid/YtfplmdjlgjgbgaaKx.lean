/- Regions that draw their order: what only reads may be read first, though others lay and write meanwhile. -/
import Derived.Test.YtfplmdjlgjgbgaaK9
namespace Go.Proofs.Ytfplmdjlgjgbgaa
set_option linter.unusedVariables false
set_option linter.unusedSimpArgs false
open Go Go.RowKit

section
variable {P : Program} {ops : Array Oper} {md : Region.Mode}

def wpJ (P : Program) (md : Region.Mode) (ops : Array Oper) (J : World → Prop) (n : Nat) (Q : Exit → Act → World → Prop) : Nat → Array Bool → Act → World → Prop
  | 0, listed, a, w => Region.ready md ops listed = [] ∧ Q .normal a w
  | fuel + 1, listed, a, w =>
    (Region.ready md ops listed = [] → Q .normal a w) ∧
    ∀ i ∈ Region.ready md ops listed, wpOp P ops Q i (fun a' w' => (i < n → J w') ∧ wpJ P md ops J n Q fuel (listed.setIfInBounds i true) a' w') a w

theorem wpAny_of_J {J : World → Prop} {n : Nat} {Q : Exit → Act → World → Prop} : ∀ (fuel : Nat) (listed : Array Bool) (a : Act) (w : World), wpJ P md ops J n Q fuel listed a w → wpAny P md ops Q fuel listed a w
  | 0, _, _, _, h => h
  | fuel + 1, listed, a, w, h => ⟨h.1, fun i hi => wpOp_mono (fun a' w' h' => wpAny_of_J fuel _ a' w' h'.2) (h.2 i hi)⟩

theorem wpOp_put' {Q : Exit → Act → World → Prop} {j : Nat} {oi oj : Oper} {v : Value} (hj : ops[j]? = some oj) (hap : oi.apart ops oj = true)
    (hsj : ∀ cs b, oj.op ≠ .select cs b) (hQ : ∀ c a w, Q (.panic c) (a.put oi.dst v) w → Q (.panic c) a w) {Y : Act → Prop} (keep : ∀ a, Y a → ∀ u, Y (a.put oj.dst u)) (keepD : ∀ (a : Act) d, Y a → Y { a with defers := d :: a.defers })
    {K : Act → World → Prop} {a : Act} {w : World} (hy : Y a) (h : wpOp P ops Q j K (a.put oi.dst v) w) :
    wpOp P ops Q j (fun a' w' => Y a' ∧ K (a'.put oi.dst v) w') a w := by
  obtain ⟨h1, h2, h3⟩ := Oper.apart_spec hap
  unfold wpOp at *
  simp only [hj] at *
  rw [wanted_put oj a oi.dst v h1] at h
  split
  · rename_i hw
    simp only [hw, if_true] at h
    rcases h with h | ⟨hasks, hlets⟩
    case inr => exact .inr ⟨by unfold Oper.asks at *; rw [execOp_put oj hsj a oi.dst v h1] at hasks; exact hasks, hlets⟩
    refine .inl ?_
    unfold Oper.wp at *
    rw [execOp_put oj hsj a oi.dst v h1] at h
    generalize (execOp a.eval oj).run P w = r at *
    cases r with
    | ok n w' =>
      cases n <;> simp only [Oper.upon] at h ⊢
      case value u => exact ⟨keep a hy u, by rw [← Act.put_comm a v u h2]; exact h⟩
      case skip => exact ⟨keep a hy _, by rw [← Act.put_comm a v undef h2]; exact h⟩
      case defer d =>
        refine ⟨keep _ (keepD _ d hy) _, ?_⟩
        rw [← Act.put_comm _ v undef h2, ← Act.put_defers]
        exact h
      case enter f args =>
        refine Calls.mono h fun e w'' he => ?_
        cases e with
        | returned u => exact ⟨keep a hy u, by rw [← Act.put_comm a v u h2]; exact he⟩
        | panicked c => exact hQ _ _ _ he
        | outgrown => exact he
      case row row args => exact Rows.mono h fun u w'' he => ⟨keep a hy u, by rw [← Act.put_comm a v u h2]; exact he⟩
    | halt x w' =>
      cases x <;> simp only [Oper.upon] at h ⊢
      case panic u => exact hQ _ _ _ h
  · rename_i hw
    simp only [hw] at h
    exact ⟨keep a hy _, by rw [← Act.put_comm a v undef h2]; exact h⟩

/-- The same value in all worlds of J; for calls, too. -/
def YJ (P : Program) (ops : Array Oper) (J : World → Prop) (o : Oper) (v : Value) (a : Act) : Prop := ∀ w, J w → YieldsAt P ops w o v a

theorem YieldsAt.wpOp' {Q : Exit → Act → World → Prop} {i : Nat} {o : Oper} {v : Value} {a : Act} {w : World} (hi : ops[i]? = some o) (hy : YieldsAt P ops w o v a) {K : Act → World → Prop} (h : K (a.put o.dst v) w) : wpOp P ops Q i K a w :=
  wpOp_of_stOp (K := fun a' => K a' w) (fun _ h => h) (hy.stOp hi h)

theorem wpJ_first {J : World → Prop} {n i : Nat} {oi : Oper} {v : Value} {Q : Exit → Act → World → Prop} (hi : ops[i]? = some oi) (hsel : ∀ (j : Nat) (o : Oper) cs b, ops[j]? = some o → o.op ≠ .select cs b)
    (hs : Region.sinkB md ops n = true) (hc : Region.chainB md ops n = true) (hn : n < ops.size) (hin : i < n) (hQ : ∀ c a w, Q (.panic c) (a.put oi.dst v) w → Q (.panic c) a w) :
    ∀ (f : Nat) (listed : Array Bool) (a : Act) (w : World), HeadInv md ops n listed →
      (∀ j oj, ops[j]? = some oj → j ≠ i → listed.getD j true = false → (∀ e ∈ oj.after, Region.binds md e = true → e.on ≠ i) → oi.apart ops oj = true) →
      i ∈ Region.ready md ops listed → YJ P ops J oi v a → J w →
      wpJ P md ops J n Q f (listed.setIfInBounds i true) (a.put oi.dst v) w → wpJ P md ops J n Q (f + 1) listed a w := by
  intro f
  induction f with
  | zero =>
    intro listed a w inv _ hr hy hJ H
    refine ⟨fun h => (by rw [h] at hr; cases hr), fun j hj => ?_⟩
    by_cases hji : j = i
    · subst hji; exact YieldsAt.wpOp' hi (hy w hJ) ⟨fun _ => hJ, H⟩
    · have := ready_mono hj hji
      rw [H.1] at this
      cases this
  | succ f ih =>
    intro listed a w inv hfree hr hy hJ H
    have hun := (mem_ready.1 hr).1
    refine ⟨fun h => (by rw [h] at hr; cases hr), fun j hj => ?_⟩
    have hjn : j < n := by
      rcases Nat.lt_or_ge j n with h | h
      · exact h
      · exact absurd hj (tail_waits hs hc hn inv _ i rfl hin hun j h)
    by_cases hji : j = i
    · subst hji; exact YieldsAt.wpOp' hi (hy w hJ) ⟨fun _ => hJ, H⟩
    · have h1 := H.2 j (ready_mono hj hji)
      obtain ⟨hjun, oj, hoj, hall⟩ := mem_ready.1 hj
      have hnot : ∀ e ∈ oj.after, Region.binds md e = true → e.on ≠ i := fun e he hb heq => by
        have h1 := hall e he hb
        rw [heq, getD_both hun] at h1
        cases h1
      have hap := hfree j oj hoj hji hjun hnot
      obtain ⟨_, _, h3⟩ := Oper.apart_spec hap
      have h2 := wpOp_put' hoj hap (fun cs b => hsel j oj cs b hoj) hQ
        (fun a hy u w' hw' => (hy w' hw').of_same (execOp_put oi (fun cs b => hsel i oi cs b hi) a oj.dst u h3) (wanted_put oi a oj.dst u h3)) (fun a d hy w' hw' => (hy w' hw').of_same rfl rfl) hy h1
      have hfree' : ∀ k ok, ops[k]? = some ok → k ≠ i → (listed.setIfInBounds j true).getD k true = false →
          (∀ e ∈ ok.after, Region.binds md e = true → e.on ≠ i) → oi.apart ops ok = true := fun k ok hk hki hun hno => by
        refine hfree k ok hk hki ?_ hno
        by_cases hjk : j = k
        · subst hjk; exact hjun
        · rw [getD_set_ne true hjk] at hun; exact hun
      refine wpOp_mono (fun a' w' h3 => ⟨h3.2.1, ih (listed.setIfInBounds j true) a' w' (inv.set hj hjn) hfree' (ready_mono hr (Ne.symm hji)) h3.1 (h3.2.1 hjn) ?_⟩) h2
      rw [Array.setIfInBounds_comm _ _ hji]
      exact h3.2.2

def seqAt (md : Region.Mode) (ops : Array Oper) : List Nat → Array Bool → Bool
  | [], listed => (Region.ready md ops listed).isEmpty
  | k :: s, listed => decide (Region.ready md ops listed = [k]) && seqAt md ops s (listed.setIfInBounds k true)
def headAt (md : Region.Mode) (ops : Array Oper) (n : Nat) (s : List Nat) : List Nat → Array Bool → Bool
  | [], listed => seqAt md ops s listed
  | k :: rs, listed => (Region.ready md ops listed).contains k && Region.free md ops listed k && Nat.blt k n && headAt md ops n s rs (listed.setIfInBounds k true)
def opsAt (l : List Oper) (rs : List Nat) : List Oper := rs.filterMap (l[·]?)
def dstsB (n : Nat) : List Oper → Bool
  | [] => true
  | o :: l => (match o.dst with | some d => Nat.blt d n && l.all fun o' => o'.dst != some d | none => false) && dstsB n l
def mixB (md : Region.Mode) (m : Nat) (l : List Oper) (n : Nat) (rs cs : List Nat) : Bool :=
  Region.noSelect l.toArray && Nat.blt n l.length && Region.sinkB md l.toArray n && Region.chainB md l.toArray n && (cs.all fun k => Nat.blt k n) && dstsB m (opsAt l rs) && Nat.beq (rs.length + cs.length) n &&
    headAt md l.toArray n (cs ++ (List.range (l.length - n)).map (n + ·)) rs (Array.replicate l.toArray.size false)

end

section
variable {P : Program} {n : Nat} {w : World} {f : Fr}

theorem wO_run {ops : Array Oper} {l : List Oper} {Q : Fr → World → Prop} (h : wO P ops n false l Q f w) {a : Act} (hs : Sm n a f) : wpList P ops (fun e a' w' => e = .normal ∧ ∃ f', Sm n a' f' ∧ Q f' w') l a w := by
  unfold wO at h
  exact h a hs
theorem wO_still {ops : Array Oper} {l : List Oper} {Q : Fr → World → Prop} (h : wO P ops n true l Q f w) {a : Act} (hs : Sm n a f) : wpStill P ops w (fun a' => ∃ f', Sm n a' f' ∧ Q f' w) l a := by
  unfold wO at h
  exact h a hs

/-- What lays and writes, one by one; J holds all the while. -/
def wJ (P : Program) (ops : Array Oper) (n : Nat) (J : World → Prop) : List Oper → (Fr → World → Prop) → Fr → World → Prop
  | [], Q, f, w => Q f w
  | o :: l, Q, f, w => wO P ops n false [o] (fun f' w' => J w' ∧ wJ P ops n J l Q f' w') f w

theorem put_other {a : Act} {d d' : Option Nat} {v : Value} {i : Nat} (h : ∀ x, d = some x → x ≠ i) : (a.put d v).tmps[i]? = a.tmps[i]? := by
  cases d with
  | none => rfl
  | some x =>
    show (a.tmps.setIfInBounds x v)[i]? = _
    rw [Array.getElem?_setIfInBounds_ne (h x rfl)]

theorem still_keep {ops : Array Oper} {F : Fr} {i : Nat} (hi : i < n) : ∀ (l : List Oper) (a : Act), (∀ o ∈ l, o.dst ≠ some i) → wpStill P ops w (fun a' => Sm n a' F) l a → a.tmps[i]? = some (F i)
  | [], a, _, h => Sm.at_ h i hi
  | o :: l, a, hd, h => by
    unfold wpStill at h
    have hne : ∀ x, o.dst = some x → x ≠ i := fun x hx e => hd o (by simp) (by rw [hx, e])
    have next : ∀ v, wpStill P ops w (fun a' => Sm n a' F) l (a.put o.dst v) → a.tmps[i]? = some (F i) := fun v h' => by
      have := still_keep hi l _ (fun o' ho' => hd o' (by simp [ho'])) h'
      rwa [put_other (d' := none) hne] at this
    split at h
    · unfold Oper.still at h
      generalize (execOp a.eval o).run P w = r at h
      cases r with
      | ok x w' =>
        cases x <;> simp only [Oper.stillUpon] at h
        case value u => exact next _ h.2
        case skip => exact next _ h.2
        case enter f args => obtain ⟨_, v, _, hn⟩ := h; exact next _ hn
      | halt x w' => simp only [Oper.stillUpon] at h
    · exact next _ h

theorem wpJ_of_seq {J : World → Prop} {N : Nat} {md : Region.Mode} {l : List Oper} {Q : Exit → Act → World → Prop} {Qf : Fr → World → Prop} (hq : ∀ f a w, Sm n a f → Qf f w → Q .normal a w) (hp : ∀ e a w, e ≠ .normal → ¬ Q e a w) :
    ∀ (cs ts : List Nat) (listed : Array Bool) (f : Fr) (a : Act) (w : World), (∀ k ∈ cs, k < l.length) → (∀ k ∈ ts, N ≤ k ∧ k < l.length) → Sm n a f → seqAt md l.toArray (cs ++ ts) listed = true →
      wJ P l.toArray n J (opsAt l cs) (fun f' w' => wO P l.toArray n false (opsAt l ts) Qf f' w') f w → wpJ P md l.toArray J N Q (cs.length + ts.length) listed a w
  | [], [], listed, f, a, w, _, _, hs, hB, h => by
    refine ⟨by simpa [seqAt] using hB, ?_⟩
    have h := h
    simp only [opsAt, List.filterMap_nil, wJ] at h
    have := wO_run h hs
    obtain ⟨_, f', hf', q⟩ := this
    exact hq f' a w hf' q
  | [], k :: ts, listed, f, a, w, hc, ht, hs, hB, h => by
    simp only [List.nil_append, seqAt, Bool.and_eq_true, decide_eq_true_eq] at hB
    simp only [List.length_nil, Nat.zero_add, List.length_cons]
    refine ⟨fun h1 => (by rw [hB.1] at h1; cases h1), fun i hi => ?_⟩
    rw [hB.1] at hi
    obtain rfl : i = k := by simpa using hi
    have hk := ht i (by simp)
    have h0 : l[i]? = some l[i] := List.getElem?_eq_getElem hk.2
    have e1 : opsAt l (i :: ts) = l[i] :: opsAt l ts := by simp [opsAt, h0]
    simp only [opsAt, List.filterMap_nil, wJ] at h
    change wO P l.toArray n false (opsAt l (i :: ts)) Qf f w at h
    rw [e1] at h
    have h2 := wO_run h hs
    have hw : wpOp P l.toArray (fun e a' w' => e = .normal ∧ ∃ f', Sm n a' f' ∧ Qf f' w') i (wpList P l.toArray (fun e a' w' => e = .normal ∧ ∃ f', Sm n a' f' ∧ Qf f' w') (opsAt l ts)) a w := by
      unfold wpOp
      simp only [List.getElem?_toArray, h0]
      exact h2
    refine wpOp_mono' (fun a' w' h' => ⟨fun h3 => absurd hk.1 (Nat.not_le.2 h3), ?_⟩) (fun e a w he h' => absurd h'.1 he) hw
    exact wpJ_of_seqT (J := J) hq ts (listed.setIfInBounds i true) a' w' (fun k hk => ht k (by simp [hk])) hB.2 h'
  | k :: cs, ts, listed, f, a, w, hc, ht, hs, hB, h => by
    simp only [List.cons_append, seqAt, Bool.and_eq_true, decide_eq_true_eq] at hB
    rw [show (k :: cs).length + ts.length = cs.length + ts.length + 1 by simp; omega]
    refine ⟨fun h1 => (by rw [hB.1] at h1; cases h1), fun i hi => ?_⟩
    rw [hB.1] at hi
    obtain rfl : i = k := by simpa using hi
    have hk := hc i (by simp)
    have h0 : l[i]? = some l[i] := List.getElem?_eq_getElem hk
    have e1 : opsAt l (i :: cs) = l[i] :: opsAt l cs := by simp [opsAt, h0]
    rw [e1] at h
    have h2 := wO_run h hs
    have hw : wpOp P l.toArray (fun e a' w' => e = .normal ∧ ∃ f', Sm n a' f' ∧ J w' ∧ wJ P l.toArray n J (opsAt l cs) (fun f' w' => wO P l.toArray n false (opsAt l ts) Qf f' w') f' w') i (wpList P l.toArray (fun e a' w' => e = .normal ∧ ∃ f', Sm n a' f' ∧ J w' ∧ wJ P l.toArray n J (opsAt l cs) (fun f' w' => wO P l.toArray n false (opsAt l ts) Qf f' w') f' w') []) a w := by
      unfold wpOp
      simp only [List.getElem?_toArray, h0]
      exact h2
    refine wpOp_mono' (fun a' w' h' => ?_) (fun e a w he h' => absurd h'.1 he) hw
    obtain ⟨_, f', hf', hJ, h3⟩ := h'
    exact ⟨fun _ => hJ, wpJ_of_seq hq hp cs ts (listed.setIfInBounds i true) f' a' w' (fun k hk => hc k (by simp [hk])) ht hf' hB.2 h3⟩
where
  wpOp_mono' {P : Program} {ops : Array Oper} {Q Q' : Exit → Act → World → Prop} {i : Nat} {K K' : Act → World → Prop} {a : Act} {w : World} (h : ∀ a w, K a w → K' a w) (hq : ∀ e a w, e ≠ .normal → Q e a w → Q' e a w) (hh : wpOp P ops Q i K a w) : wpOp P ops Q' i K' a w := by
    unfold wpOp at *
    split
    · exact h _ _ (by simpa [*] using hh)
    · rename_i o ho
      simp only [ho] at hh
      split
      · rename_i hw
        simp only [hw, if_true] at hh
        rcases hh with hh | ⟨h1, h2⟩
        · refine .inl ?_
          unfold Oper.wp at *
          generalize (execOp a.eval o).run P w = r at *
          cases r with
          | ok x w1 =>
            cases x <;> first | exact h _ _ hh | exact hh | skip
            · exact Calls.mono hh fun e w2 he => by
                cases e with
                | returned v => exact h _ _ he
                | panicked ch => exact hq _ _ _ (by simp) he
                | outgrown => obtain ⟨a0, w0, q⟩ := he; exact ⟨a0, w0, hq _ _ _ (by simp) q⟩
            all_goals first | exact h _ _ hh | exact Rows.mono hh (fun v w' hv => h _ _ hv) | exact hh
          | halt x w1 => cases x <;> first | exact hq _ _ _ (by simp) hh | exact hh
        · obtain ⟨a0, w0, q⟩ := h2
          exact .inr ⟨h1, a0, w0, hq _ _ _ (by simp) q⟩
      · rename_i hw; simp only [hw] at hh; exact h _ _ hh
  wpJ_of_seqT {J : World → Prop} {N : Nat} {md : Region.Mode} {l : List Oper} {Q : Exit → Act → World → Prop} {Qf : Fr → World → Prop} (hq : ∀ f a w, Sm n a f → Qf f w → Q .normal a w) :
      ∀ (ts : List Nat) (listed : Array Bool) (a : Act) (w : World), (∀ k ∈ ts, N ≤ k ∧ k < l.length) → seqAt md l.toArray ts listed = true →
        wpList P l.toArray (fun e a' w' => e = .normal ∧ ∃ f', Sm n a' f' ∧ Qf f' w') (opsAt l ts) a w → wpJ P md l.toArray J N Q ts.length listed a w
    | [], listed, a, w, _, hB, h => by
      refine ⟨by simpa [seqAt] using hB, ?_⟩
      obtain ⟨_, f', hf', q⟩ := h
      exact hq f' a w hf' q
    | k :: ts, listed, a, w, ht, hB, h => by
      simp only [seqAt, Bool.and_eq_true, decide_eq_true_eq] at hB
      simp only [List.length_cons]
      refine ⟨fun h1 => (by rw [hB.1] at h1; cases h1), fun i hi => ?_⟩
      rw [hB.1] at hi
      obtain rfl : i = k := by simpa using hi
      have hk := ht i (by simp)
      have h0 : l[i]? = some l[i] := List.getElem?_eq_getElem hk.2
      have e1 : opsAt l (i :: ts) = l[i] :: opsAt l ts := by simp [opsAt, h0]
      rw [e1] at h
      have hw : wpOp P l.toArray (fun e a' w' => e = .normal ∧ ∃ f', Sm n a' f' ∧ Qf f' w') i (wpList P l.toArray (fun e a' w' => e = .normal ∧ ∃ f', Sm n a' f' ∧ Qf f' w') (opsAt l ts)) a w := by
        unfold wpOp
        simp only [List.getElem?_toArray, h0]
        exact h
      exact wpOp_mono' (fun a' w' h' => ⟨fun h3 => absurd hk.1 (Nat.not_le.2 h3), wpJ_of_seqT hq ts (listed.setIfInBounds i true) a' w' (fun k hk => ht k (by simp [hk])) hB.2 h'⟩) (fun e a w he h' => absurd h'.1 he) hw
theorem wpJ_of_head {J : World → Prop} {N : Nat} {md : Region.Mode} {l : List Oper} {Q : Exit → Act → World → Prop} {Qf : Fr → World → Prop} {F : Fr} (hq : ∀ f a w, Sm n a f → Qf f w → Q .normal a w) (hp : ∀ e a w, e ≠ .normal → ¬ Q e a w)
    (hsel : Region.noSelect l.toArray = true) (hs : Region.sinkB md l.toArray N = true) (hc : Region.chainB md l.toArray N = true) (hn : N < l.toArray.size) (cs ts : List Nat) (hcs : ∀ k ∈ cs, k < l.length) (hts : ∀ k ∈ ts, N ≤ k ∧ k < l.length) :
    ∀ (rs : List Nat) (listed : Array Bool) (a : Act), a.tmps.size = n → HeadInv md l.toArray N listed → dstsB n (opsAt l rs) = true → headAt md l.toArray N (cs ++ ts) rs listed = true → J w →
      (∀ w', J w' → wpStill P l.toArray w' (fun a' => Sm n a' F) (opsAt l rs) a) →
      wJ P l.toArray n J (opsAt l cs) (fun f' w' => wO P l.toArray n false (opsAt l ts) Qf f' w') F w → wpJ P md l.toArray J N Q (rs.length + (cs.length + ts.length)) listed a w
  | [], listed, a, _, inv, _, hB, hJ, h, hr => by
    rw [List.length_nil, Nat.zero_add]
    exact wpJ_of_seq hq hp cs ts listed F a w hcs hts (h w hJ) hB hr
  | k :: rs, listed, a, ha, inv, hD, hB, hJ, h, hr => by
    simp only [headAt, Bool.and_eq_true] at hB
    obtain ⟨⟨⟨hr1, hf⟩, hkn⟩, hB'⟩ := hB
    have hkN : k < N := by rw [← Nat.blt_eq]; exact hkn
    have hk : k < l.length := by simp at hn; omega
    have h0 : l[k]? = some l[k] := List.getElem?_eq_getElem hk
    have h0' : l.toArray[k]? = some l[k] := by simp [h0]
    have e1 : opsAt l (k :: rs) = l[k] :: opsAt l rs := by simp [opsAt, h0]
    have hr' : k ∈ Region.ready md l.toArray listed := by simpa using hr1
    rw [e1] at hD
    simp only [dstsB, Bool.and_eq_true] at hD
    have hst : ∀ w', J w' → ∃ v, YieldsAt P l.toArray w' l[k] v a ∧ wpStill P l.toArray w' (fun a' => Sm n a' F) (opsAt l rs) (a.put l[k].dst v) := fun w' hw' => by
      have := h w' hw'
      rw [e1] at this
      refine yieldsAt_of_stOp h0' ?_
      unfold stOp
      simp only [h0']
      exact this
    have same : ∃ v, ∀ w', J w' → YieldsAt P l.toArray w' l[k] v a ∧ wpStill P l.toArray w' (fun a' => Sm n a' F) (opsAt l rs) (a.put l[k].dst v) := by
      cases hd : l[k].dst with
      | none => rw [hd] at hD; exact absurd hD.1 (by simp)
      | some d =>
        rw [hd] at hD
        simp only [Bool.and_eq_true] at hD
        obtain ⟨⟨hdn, hall⟩, _⟩ := hD
        have hdn : d < n := by rw [← Nat.blt_eq]; exact hdn
        refine ⟨F d, fun w' hw' => ?_⟩
        obtain ⟨v, hv, hv2⟩ := hst w' hw'
        have := still_keep hdn _ _ (fun o ho => by have := List.all_eq_true.1 hall o ho; simpa using this) hv2
        rw [hd] at this
        have e2 : (a.put (some d) v).tmps[d]? = some v := by
          show (a.tmps.setIfInBounds d v)[d]? = some v
          rw [Array.getElem?_setIfInBounds_self_of_lt (by rw [ha]; exact hdn)]
        rw [e2] at this
        cases this
        rw [← hd]
        exact ⟨hv, hv2⟩
    obtain ⟨v, hv⟩ := same
    rw [show (k :: rs).length + (cs.length + ts.length) = rs.length + (cs.length + ts.length) + 1 by simp; omega]
    exact wpJ_first h0' (Region.noSelect_spec hsel) hs hc hn hkN (fun c a w hq' => absurd hq' (hp _ _ _ (by simp))) _ listed a w inv (Region.free_spec h0' hf) hr' (fun w' hw' => (hv w' hw').1) hJ
      (wpJ_of_head hq hp hsel hs hc hn cs ts hcs hts rs _ _ (by cases hd : l[k].dst <;> simp [Act.put, ha]) (inv.set hr' hkN) hD.2 hB' hJ (fun w' hw' => (hv w' hw').2) hr)

theorem opsAt_drop (l : List Oper) : ∀ (m N : Nat), N + m = l.length → opsAt l ((List.range m).map (N + ·)) = l.drop N
  | 0, N, h => by rw [List.drop_eq_nil_of_le (by omega)]; rfl
  | m + 1, N, h => by
    have hN : N < l.length := by omega
    rw [List.drop_eq_getElem_cons hN, List.range_succ_eq_map, List.map_cons, List.map_map]
    have e : (List.range m).map ((fun x => N + x) ∘ Nat.succ) = (List.range m).map (fun x => N + 1 + x) := List.map_congr_left fun x _ => by show N + (x + 1) = _; omega
    rw [e]
    have := opsAt_drop l m (N + 1) (by omega)
    unfold opsAt at this ⊢
    rw [List.filterMap_cons, this]
    simp [hN]

/-- What reads (rs) at any world of J; what lays, in its order (cs); and the rest. -/
theorem wC_mix {QC : Exit → Fr → World → Prop} {id : Nat} {l : List Oper} (J : World → Prop) (N : Nat) (rs cs : List Nat) (F : Fr) (hm : P.follows .mixedOrders = true) (hB : mixB .any n l N rs cs = true) (hJ : J w.drew)
    (hread : ∀ w', J w' → wO P l.toArray n true (opsAt l rs) (fun f' _ => f' = F) f w')
    (hrest : wJ P l.toArray n J (opsAt l cs) (fun f' w' => wO P l.toArray n false (l.drop N) (fun f'' w'' => QC .normal f'' w'') f' w') F w.drew) : wC P n (.region id l.toArray true) QC f w := by
  unfold wC
  intro a ha
  simp only [mixB, Bool.and_eq_true] at hB
  obtain ⟨⟨⟨⟨⟨⟨⟨hsel, hn⟩, hs⟩, hc⟩, hcs⟩, hD⟩, hlen⟩, hB⟩ := hB
  have hn : N < l.length := by rw [← Nat.blt_eq]; exact hn
  have hlen := Nat.eq_of_beq_eq_true hlen
  refine wp_mono (Q := fun e a' w' => e = .normal ∧ ∃ f', Sm n a' f' ∧ QC .normal f' w') ?_ (by rintro e a' w' ⟨rfl, h⟩; exact h)
  refine wp_region_any hm (wpAny_of_J (J := J) (n := N) _ _ _ _ ?_)
  have inv0 : HeadInv .any l.toArray N (Array.replicate l.toArray.size false) :=
    ⟨by simp, fun j oj _ hl => (by rw [getD_replicate_false] at hl; cases hl), fun t _ ht => getD_in (by simpa using ht) (getD_replicate_false _ _)⟩
  have := wpJ_of_head (n := n) (w := w.drew) (J := J) (N := N) (md := .any) (l := l) (Q := fun e a' w' => e = .normal ∧ ∃ f', Sm n a' f' ∧ QC .normal f' w') (Qf := fun f' w' => QC .normal f' w') (F := F)
    (fun f a w hs q => ⟨rfl, f, hs, q⟩) (fun e a w he h => he h.1) hsel hs hc (by simpa using hn) cs ((List.range (l.length - N)).map (N + ·))
    (fun k hk => by have := List.all_eq_true.1 hcs k hk; rw [Nat.blt_eq] at this; omega) (fun k hk => by
      obtain ⟨i, hi, rfl⟩ := List.mem_map.1 hk
      have := List.mem_range.1 hi
      omega) rs (Array.replicate l.toArray.size false) a ha.size inv0 hD hB hJ
    (fun w' hw' => by
      have h2 := wO_still (hread w' hw') ha
      exact stillMono (fun a' h => by obtain ⟨f', h1, rfl⟩ := h; exact h1) h2) (by rw [opsAt_drop l _ N (by omega)]; exact hrest)
  have e : rs.length + (cs.length + ((List.range (l.length - N)).map (N + ·)).length) = l.toArray.size := by simp; omega
  rw [e] at this
  exact this
where
  stillMono {P : Program} {ops : Array Oper} {w : World} {Q Q' : Act → Prop} {l : List Oper} {a : Act} (hq : ∀ a, Q a → Q' a) (h : wpStill P ops w Q l a) : wpStill P ops w Q' l a := by
    induction l generalizing a with
    | nil => exact hq _ h
    | cons o l ih =>
      unfold wpStill at h ⊢
      split
      · rename_i hw
        rw [if_pos hw] at h
        exact Oper.still_mono (fun a h => ih h) h
      · rename_i hw
        rw [if_neg hw] at h
        exact ih h

/-- The length of a map that is only read: how many entries it holds at most. -/
theorem o_lenS {md : Bool} {ops : Array Oper} {rest : List Oper} {w0 : World} {Q : Fr → World → Prop} {f0 : FP} {L : List HP} {d : Tmp} {x : Operand} {ty t kt e : TypeId} {pos : String} {after : Array Edge} {α : Type} {E : EK P e α} {N : Nat} {G : Int → Option α} {v : Option Nat}
    (ht : P.underlying t = some (.map kt e)) (H : St w0 f0 L w) (hR : RdM E kt (okOf w0 f0) w0 v N G) (hx : ev f x = .map v) (h : ∀ n', RdM E kt (okOf w0 f0) w0 v n' G → wO P ops n md rest Q (up f d (.int .i64 (n' : Nat))) w) (hd : Nat.blt d n = true := by rfl) :
    wO P ops n md (⟨some d, .call { callee := .builtin .len, args := #[x], argTypes := #[t] }, ty, pos, after, none⟩ :: rest) Q f w := by
  rcases hR with ⟨rfl, h0⟩ | ⟨b, rfl, hok, hM⟩
  · refine o_pure (v := .int .i64 (0 : Nat)) rfl hd ?_ (h 0 (.inl ⟨rfl, h0⟩))
    simp [execOp, resolve, invoke, builtin, hx, Builtin.len_, run_underlying ht, goInt, Result.andThen]
  · obtain ⟨es, clock, hb, hz⟩ := hM.froz
    refine o_pure (v := .int .i64 (es.size : Nat)) rfl hd ?_ (h es.size (.inr ⟨b, rfl, hok, IsM.of_froz hb ⟨hz.1, Nat.le_refl _, hz.2.2⟩⟩))
    have hb' := (H.ok0 b hok).2.trans hb
    simp [execOp, resolve, invoke, builtin, hx, Builtin.len_, run_underlying ht, goInt, Result.andThen, getObj, hb', Sem.run]
theorem RdM.wf {α : Type} {e kt : TypeId} {E : EK P e α} {ok : FP} {w : World} {v : Option Nat} {N : Nat} {G : Int → Option α} (h : RdM E kt ok w v N G) {k : Int} (hk : G k ≠ none) : wfi k := by
  rcases h with ⟨_, h0⟩ | ⟨b, _, _, _, _, hw, _⟩
  · exact absurd (h0 k) hk
  · exact hw k hk
end
end Go.Proofs.Ytfplmdjlgjgbgaa
