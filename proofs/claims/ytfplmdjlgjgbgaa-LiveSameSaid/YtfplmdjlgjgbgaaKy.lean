/- Regions in drawn order: what only reads, and beside it operations that each lay something new, in whatever order. -/
import Derived.Test.YtfplmdjlgjgbgaaKn
namespace Go.Proofs.Ytfplmdjlgjgbgaa
set_option linter.unusedVariables false
set_option linter.unusedSimpArgs false
open Go Go.RowKit

def emp : HP where
  sat w f := ∀ b, ¬ f b
  loc := fun h _ => h
  dom := fun h b hb => absurd hb (h b)

theorem St.fill {w0 w : World} {f0 : FP} {L1 : List HP} {R : HP} (H : St w0 f0 (L1 ++ [R]) w) (k : Nat) (hk : L1[k]? = some emp) : St w0 f0 (L1.set k R) w := by
  obtain ⟨f, hf, hfb⟩ := H.sf
  obtain ⟨f1, f2, e1, e2, e3, e4⟩ := SF.app.1 hf
  have e4 := SF.of_one e4
  obtain ⟨g1, g2, k1, k2, k3, k4, k5⟩ := SF.focus k e3 hk
  refine ⟨H.step, _, k5 w R f2 g2 e4 k4 fun b hb hb2 => e2 b ((k1 b).2 (.inr hb2)) hb, ?_⟩
  rintro b (hb | hb)
  · exact hfb b ((e1 b).2 (.inr hb))
  · exact hfb b ((e1 b).2 (.inl ((k1 b).2 (.inr hb))))
theorem St.emps {w0 w : World} {f0 : FP} {L : List HP} (H : St w0 f0 L w) : ∀ (C : List Nat), St w0 f0 (L ++ C.map fun _ => emp) w
  | [] => by simpa using H
  | i :: C => by
    have h1 := (H.add emp (Step.refl w _) (g := fun _ => False) (fun _ h => h) fun _ h => h.elim)
    have := St.emps h1 C
    rw [List.append_assoc] at this
    exact this

section
variable {P : Program} {n : Nat} {md : Region.Mode} {l : List Oper}

def dstAt (l : List Oper) (i : Nat) : Nat := ((l[i]?).bind (·.dst)).getD 0
def notDst (l : List Oper) (C : List Nat) (s : Nat) : Bool := C.all fun i => !Nat.beq (dstAt l i) s
def endAt (rs : List Nat) (listed : Array Bool) : Array Bool := rs.foldl (fun li k => li.setIfInBounds k true) listed
def readB (md : Region.Mode) (ops : Array Oper) (n : Nat) : List Nat → Array Bool → Bool
  | [], _ => true
  | k :: rs, listed => (Region.ready md ops listed).contains k && Region.free md ops listed k && Nat.blt k n && readB md ops n rs (listed.setIfInBounds k true)
def backB (md : Region.Mode) (l : List Oper) : Bool := (List.range l.length).all fun j => match l[j]? with | some o => o.after.all fun e => !Region.binds md e || Nat.blt e.on j | none => true
def ndB : List Nat → Bool
  | [] => true
  | x :: l => !l.contains x && ndB l
def mixA (md : Region.Mode) (m : Nat) (l : List Oper) (n : Nat) (rs C : List Nat) : Bool :=
  Region.noSelect l.toArray && Nat.blt n l.length && Region.sinkB md l.toArray n && Region.chainB md l.toArray n && dstsB m (opsAt l rs) && readB md l.toArray n rs (Array.replicate l.toArray.size false) && backB md l &&
    ndB (C.map (dstAt l)) && (C.all fun i => Nat.blt i n) && ((List.range n).all fun i => rs.contains i || C.contains i) && (C.all fun i => !rs.contains i) && Nat.beq (rs.length + C.length) n &&
    seqAt md l.toArray ((List.range (l.length - n)).map (n + ·)) (Array.replicate n true ++ Array.replicate (l.length - n) false)

theorem wpJ_of_read {J : World → Prop} {N M : Nat} {Q : Exit → Act → World → Prop} {F : Fr} {w : World} (hp : ∀ e a w, e ≠ .normal → ¬ Q e a w)
    (hsel : Region.noSelect l.toArray = true) (hs : Region.sinkB md l.toArray N = true) (hc : Region.chainB md l.toArray N = true) (hn : N < l.toArray.size) :
    ∀ (rs : List Nat) (listed : Array Bool) (a : Act), a.tmps.size = n → HeadInv md l.toArray N listed → dstsB n (opsAt l rs) = true → readB md l.toArray N rs listed = true → J w →
      (∀ w', J w' → wpStill P l.toArray w' (fun a' => Sm n a' F) (opsAt l rs) a) →
      (∀ a, Sm n a F → HeadInv md l.toArray N (endAt rs listed) → wpJ P md l.toArray J N Q M (endAt rs listed) a w) → wpJ P md l.toArray J N Q (rs.length + M) listed a w
  | [], listed, a, _, inv, _, hB, hJ, h, hr => by
    rw [List.length_nil, Nat.zero_add]
    exact hr a (h w hJ) inv
  | k :: rs, listed, a, ha, inv, hD, hB, hJ, h, hr => by
    simp only [readB, Bool.and_eq_true] at hB
    obtain ⟨⟨⟨hr1, hf⟩, hkn⟩, hB'⟩ := hB
    have hkN : k < N := by rw [← Nat.blt_eq]; exact hkn
    have hk : k < l.length := by simp at hn; omega
    have h0 : l[k]? = some l[k] := List.getElem?_eq_getElem hk
    have h0' : l.toArray[k]? = some l[k] := by simp [h0]
    have e1 : opsAt l (k :: rs) = l[k] :: opsAt l rs := by simp [opsAt, h0]
    have hr' : k ∈ Region.ready md l.toArray listed := by simpa using hr1
    rw [e1] at hD
    simp only [dstsB, Bool.and_eq_true] at hD
    have hst : ∀ w', J w' → ∃ v, YieldsAt P l.toArray w' l[k] v a ∧ wpStill P l.toArray w' (fun a' => Sm n a' F) (opsAt l rs) (a.put l[k].dst v) := fun w' hw' => by
      have := h w' hw'
      rw [e1] at this
      refine yieldsAt_of_stOp h0' ?_
      unfold stOp
      simp only [h0']
      exact this
    have same : ∃ v, ∀ w', J w' → YieldsAt P l.toArray w' l[k] v a ∧ wpStill P l.toArray w' (fun a' => Sm n a' F) (opsAt l rs) (a.put l[k].dst v) := by
      cases hd : l[k].dst with
      | none => rw [hd] at hD; exact absurd hD.1 (by simp)
      | some d =>
        rw [hd] at hD
        simp only [Bool.and_eq_true] at hD
        obtain ⟨⟨hdn, hall⟩, _⟩ := hD
        have hdn : d < n := by rw [← Nat.blt_eq]; exact hdn
        refine ⟨F d, fun w' hw' => ?_⟩
        obtain ⟨v, hv, hv2⟩ := hst w' hw'
        have := still_keep hdn _ _ (fun o ho => by have := List.all_eq_true.1 hall o ho; simpa using this) hv2
        rw [hd] at this
        have e2 : (a.put (some d) v).tmps[d]? = some v := by
          show (a.tmps.setIfInBounds d v)[d]? = some v
          rw [Array.getElem?_setIfInBounds_self_of_lt (by rw [ha]; exact hdn)]
        rw [e2] at this
        cases this
        rw [← hd]
        exact ⟨hv, hv2⟩
    obtain ⟨v, hv⟩ := same
    rw [show (k :: rs).length + M = rs.length + M + 1 by simp; omega]
    exact wpJ_first h0' (Region.noSelect_spec hsel) hs hc hn hkN (fun c a w hq' => absurd hq' (hp _ _ _ (by simp))) _ listed a w inv (Region.free_spec h0' hf) hr' (fun w' hw' => (hv w' hw').1) hJ
      (wpJ_of_read hp hsel hs hc hn rs _ _ (by cases hd : l[k].dst <;> simp [Act.put, ha]) (inv.set hr' hkN) hD.2 hB' hJ (fun w' hw' => (hv w' hw').2) hr)

def resA (C : List Nat) (Rs : Nat → HP) (D : Nat → Bool) : List HP := C.map fun i => if D i = true then Rs i else emp
structure FrA (l : List Oper) (C : List Nat) (F f : Fr) (D : Nat → Bool) (vs : Nat → Value) : Prop where
  out : ∀ s, notDst l C s = true → f s = F s
  undone : ∀ i ∈ C, D i = false → f (dstAt l i) = F (dstAt l i)
  done : ∀ i ∈ C, D i = true → f (dstAt l i) = vs i

theorem ndB_inj : ∀ {C : List Nat} {g : Nat → Nat}, ndB (C.map g) = true → ∀ i ∈ C, ∀ j ∈ C, g i = g j → i = j
  | [], _, _, i, hi, _, _, _ => by cases hi
  | x :: C, g, h, i, hi, j, hj, e => by
    simp only [List.map_cons, ndB, Bool.and_eq_true, Bool.not_eq_true'] at h
    have hx : ∀ y ∈ C, g y ≠ g x := fun y hy e => by
      have : (C.map g).contains (g x) = true := by simp; exact ⟨y, hy, e⟩
      rw [h.1] at this; cases this
    rcases List.mem_cons.1 hi with hi' | hi' <;> rcases List.mem_cons.1 hj with hj' | hj'
    · rw [hi', hj']
    · exact absurd (by rw [← hi']; exact e.symm) (hx j hj')
    · exact absurd (by rw [← hj']; exact e) (hx i hi')
    · exact ndB_inj h.2 i hi' j hj' e
theorem ndB_nd : ∀ {C : List Nat} {g : Nat → Nat}, ndB (C.map g) = true → C.Nodup
  | [], _, _ => by simp
  | x :: C, g, h => by
    simp only [List.map_cons, ndB, Bool.and_eq_true, Bool.not_eq_true'] at h
    refine List.nodup_cons.2 ⟨fun hx => ?_, ndB_nd h.2⟩
    have : (C.map g).contains (g x) = true := by simp; exact ⟨x, hx, rfl⟩
    rw [h.1] at this; cases this
theorem nbeq_ne {i j : Nat} (h : j ≠ i) : Nat.beq j i = false := by
  cases e : Nat.beq j i
  · rfl
  · exact absurd (Nat.eq_of_beq_eq_true e) h
theorem filt_one {D : Nat → Bool} {i : Nat} (hD : D i = false) : ∀ {C : List Nat}, C.Nodup → i ∈ C → (C.filter fun j => !(Nat.beq j i || D j)).length + 1 = (C.filter fun j => !D j).length
  | [], _, h => by cases h
  | x :: C, hn, h => by
    obtain ⟨hx, hn'⟩ := List.nodup_cons.1 hn
    by_cases e : x = i
    · subst e
      have : C.filter (fun j => !(Nat.beq j x || D j)) = C.filter fun j => !D j := List.filter_congr fun j hj => by rw [nbeq_ne (show j ≠ x by rintro rfl; exact hx hj)]; simp
      rw [List.filter_cons_of_neg (by simp), List.filter_cons_of_pos (by simp [hD]), this]; simp
    · have ih := filt_one hD hn' ((List.mem_cons.1 h).resolve_left fun e' => e e'.symm)
      have hb := nbeq_ne e
      cases hd : D x with
      | true => rw [List.filter_cons_of_neg (by simp [hd]), List.filter_cons_of_neg (by simp [hd])]; exact ih
      | false => rw [List.filter_cons_of_pos (by rw [hb, hd]; rfl), List.filter_cons_of_pos (by simp [hd])]; simp only [List.length_cons]; omega
theorem resA_set {C : List Nat} {Rs : Nat → HP} {D : Nat → Bool} {R : HP} {k i : Nat} (hn : C.Nodup) (hk : C[k]? = some i) :
    (resA C Rs D).set k R = resA C (fun j => bif Nat.beq j i then R else Rs j) (fun j => Nat.beq j i || D j) := by
  have hkl := (List.getElem?_eq_some_iff.1 hk).1
  apply List.ext_getElem?
  intro q
  unfold resA
  by_cases e : q = k
  · subst e
    rw [List.getElem?_set_self (by simpa using hkl), List.getElem?_map, hk]; simp
  · rw [List.getElem?_set_ne (Ne.symm e), List.getElem?_map, List.getElem?_map]
    cases hq : C[q]? with
    | none => rfl
    | some y =>
      have hy : y ≠ i := by
        intro e'
        subst e'
        exact e ((List.getElem?_inj (List.getElem?_eq_some_iff.1 hq).1 hn).1 (hq.trans hk.symm))
      have hb := nbeq_ne hy
      show (some (if D y = true then Rs y else emp)) = some (if (Nat.beq y i || D y) = true then (bif Nat.beq y i then R else Rs y) else emp)
      rw [hb]; rfl

theorem fold_up {l : List Oper} (vs : Nat → Value) : ∀ (C : List Nat) (F : Fr), ndB (C.map (dstAt l)) = true →
    (∀ i ∈ C, (C.foldl (fun f i => up f (dstAt l i) (vs i)) F) (dstAt l i) = vs i) ∧ (∀ s, (∀ i ∈ C, dstAt l i ≠ s) → (C.foldl (fun f i => up f (dstAt l i) (vs i)) F) s = F s)
  | [], F, _ => ⟨fun i hi => (by cases hi), fun s _ => rfl⟩
  | x :: C, F, h => by
    have h0 := h
    simp only [List.map_cons, ndB, Bool.and_eq_true, Bool.not_eq_true'] at h
    obtain ⟨h1, h2⟩ := fold_up vs C (up F (dstAt l x) (vs x)) h.2
    refine ⟨fun i hi => ?_, fun s hs => ?_⟩
    · rcases List.mem_cons.1 hi with rfl | hi
      · have := h2 (dstAt l i) fun j hj e => by
          have := ndB_inj h0 j (by simp [hj]) i (by simp) e
          subst this
          have : (C.map (dstAt l)).contains (dstAt l j) = true := by simp; exact ⟨j, hj, rfl⟩
          rw [h.1] at this; cases this
        rw [List.foldl_cons, this]
        unfold up; simp
      · exact h1 i hi
    · rw [List.foldl_cons, h2 s fun i hi => hs i (by simp [hi])]
      have := hs x (by simp)
      unfold up
      cases e : Nat.beq s (dstAt l x)
      · rfl
      · exact absurd (Nat.eq_of_beq_eq_true e).symm this

theorem notDst_iff {l : List Oper} {C : List Nat} {s : Nat} : notDst l C s = true ↔ ∀ i ∈ C, dstAt l i ≠ s := by
  unfold notDst
  rw [List.all_eq_true]
  refine forall_congr' fun i => forall_congr' fun _ => ?_
  rw [Bool.not_eq_true', Bool.eq_false_iff]
  exact not_congr ⟨Nat.eq_of_beq_eq_true, fun e => by rw [e]; exact Nat.beq_refl s⟩

theorem anyA {w0 : World} {f0 : FP} {L0 : List HP} {N : Nat} {C : List Nat} {F : Fr} {Ok : Nat → Value → HP → Prop} {QC : Exit → Fr → World → Prop}
    (hs : Region.sinkB md l.toArray N = true) (hc : Region.chainB md l.toArray N = true) (hn : N < l.length) (hback : backB md l = true) (hnd : ndB (C.map (dstAt l)) = true) (hC : ∀ i ∈ C, i < N)
    (hseq : seqAt md l.toArray ((List.range (l.length - N)).map (N + ·)) (Array.replicate N true ++ Array.replicate (l.length - N) false) = true)
    (hop : ∀ i ∈ C, ∀ (f : Fr) (w' : World) (L' : List HP), (∀ s, notDst l C s = true → f s = F s) → St w0 f0 (L0 ++ L') w' → wO P l.toArray n false (opsAt l [i]) (fun f' w'' => ∃ v R, Ok i v R ∧ f' = up f (dstAt l i) v ∧ St w0 f0 (L0 ++ L' ++ [R]) w'') f w')
    (htail : ∀ (vs : Nat → Value) (Rs : Nat → HP) w', (∀ i ∈ C, Ok i (vs i) (Rs i)) → St w0 f0 (L0 ++ C.map Rs) w' → wO P l.toArray n false (l.drop N) (fun f' w' => QC .normal f' w') (C.foldl (fun f i => up f (dstAt l i) (vs i)) F) w') :
    ∀ (m : Nat) (D : Nat → Bool) (vs : Nat → Value) (Rs : Nat → HP) (listed : Array Bool) (a : Act) (w : World) (f : Fr), (C.filter fun i => !D i).length = m → HeadInv md l.toArray N listed → (∀ i, i < N → (listed.getD i true = false ↔ (i ∈ C ∧ D i = false))) →
      FrA l C F f D vs → Sm n a f → (∀ i ∈ C, D i = true → Ok i (vs i) (Rs i)) → St w0 f0 (L0 ++ resA C Rs D) w →
      wpJ P md l.toArray (fun w' => ∃ L', St w0 f0 (L0 ++ L') w') N (fun e a' w' => e = .normal ∧ ∃ f', Sm n a' f' ∧ QC .normal f' w') (m + (l.length - N)) listed a w := by
  intro m
  induction m with
  | zero =>
    intro D vs Rs listed a w f hm inv hli hfr hsm hok hst
    have hall : ∀ i ∈ C, D i = true := fun i hi => by
      cases h : D i with
      | true => rfl
      | false =>
        have : i ∈ C.filter fun i => !D i := List.mem_filter.2 ⟨hi, by simp [h]⟩
        rw [List.eq_nil_of_length_eq_zero hm] at this; cases this
    have hlisted : listed = Array.replicate N true ++ Array.replicate (l.length - N) false := by
      have hsz := inv.size
      simp only [List.size_toArray] at hsz
      apply Array.ext
      · simp; omega
      · intro i h1 h2
        by_cases hi : i < N
        · rw [Array.getElem_append_left (by simpa using hi), Array.getElem_replicate]
          have := (hli i hi)
          have hg : listed.getD i true = listed[i] := by simp [h1]
          rw [hg] at this
          cases e : listed[i] with
          | true => rfl
          | false => have := this.1 e; rw [hall i this.1] at this; cases this.2
        · rw [Array.getElem_append_right (by simp; omega), Array.getElem_replicate]
          have := inv.tail i (by omega) (by simp; omega)
          simpa [h1] using this
    subst hlisted
    have hf : f = C.foldl (fun f i => up f (dstAt l i) (vs i)) F := by
      obtain ⟨h1, h2⟩ := fold_up vs C F hnd
      funext s
      by_cases h : ∃ i ∈ C, dstAt l i = s
      · obtain ⟨i, hi, rfl⟩ := h
        rw [h1 i hi, hfr.done i hi (hall i hi)]
      · have h' : ∀ i ∈ C, dstAt l i ≠ s := fun i hi e => h ⟨i, hi, e⟩
        rw [h2 s h', hfr.out s (notDst_iff.2 h')]
    have hres : resA C Rs D = C.map Rs := List.map_congr_left fun i hi => by rw [if_pos (hall i hi)]
    rw [hres] at hst
    have ht := htail vs Rs w (fun i hi => hok i hi (hall i hi)) hst
    rw [← hf] at ht
    have h2 := wO_run ht hsm
    rw [← opsAt_drop l (l.length - N) N (by omega)] at h2
    have := wpJ_of_seq.wpJ_of_seqT (P := P) (n := n) (J := fun w' => ∃ L', St w0 f0 (L0 ++ L') w') (N := N) (md := md) (l := l) (Q := fun e a' w' => e = .normal ∧ ∃ f', Sm n a' f' ∧ QC .normal f' w') (Qf := fun f' w' => QC .normal f' w')
      (fun f a w hs q => ⟨rfl, f, hs, q⟩) ((List.range (l.length - N)).map (N + ·)) _ a w (fun k hk => by
        obtain ⟨i, hi, rfl⟩ := List.mem_map.1 hk
        have := List.mem_range.1 hi
        omega) hseq h2
    simpa using this
  | succ m ih =>
    intro D vs Rs listed a w f hm inv hli hfr hsm hok hst
    have hsome : ∃ i, i < N ∧ listed.getD i true = false := by
      cases h : C.filter (fun i => !D i) with
      | nil => rw [h] at hm; simp at hm
      | cons i _ =>
        have : i ∈ C.filter fun i => !D i := by rw [h]; simp
        obtain ⟨h1, h2⟩ := List.mem_filter.1 this
        exact ⟨i, hC i h1, (hli i (hC i h1)).2 ⟨h1, by simpa using h2⟩⟩
    obtain ⟨i0, hi0, hun0⟩ := hsome
    have hready : Region.ready md l.toArray listed ≠ [] := by
      have key : ∀ k, k ≤ N → (∃ i, i < k ∧ listed.getD i true = false) → ∃ i, i ∈ Region.ready md l.toArray listed := by
        intro k
        induction k with
        | zero => rintro _ ⟨i, hi, _⟩; omega
        | succ k ihk =>
          rintro hk ⟨i, hi, hun⟩
          by_cases hx : ∃ j, j < k ∧ listed.getD j true = false
          · exact ihk (by omega) hx
          · have hik : i = k := by
              rcases Nat.lt_or_ge i k with h | h
              · exact absurd ⟨i, h, hun⟩ hx
              · omega
            subst hik
            have hil : i < l.length := by omega
            refine ⟨i, mem_ready.2 ⟨hun, l[i], by simp [hil], fun e he hb => ?_⟩⟩
            have hb1 := List.all_eq_true.1 hback i (List.mem_range.2 hil)
            rw [List.getElem?_eq_getElem hil] at hb1
            have hb2 := Array.all_eq_true_iff_forall_mem.1 hb1 e he
            rw [hb, Bool.not_true, Bool.false_or, Nat.blt_eq] at hb2
            have hno : ¬ listed.getD e.on true = false := fun h => hx ⟨e.on, hb2, h⟩
            have hon : e.on < listed.size := by rw [inv.size]; simp; omega
            simp [hon] at hno ⊢
            exact hno
      obtain ⟨i, hi⟩ := key N (Nat.le_refl _) ⟨i0, hi0, hun0⟩
      intro h; rw [h] at hi; cases hi
    rw [show m + 1 + (l.length - N) = m + (l.length - N) + 1 by omega]
    refine ⟨fun h => absurd h hready, fun i hi => ?_⟩
    have hiN : i < N := by
      rcases Nat.lt_or_ge i N with h | h
      · exact h
      · exact absurd hi (tail_waits hs hc (by simpa using hn) inv _ i0 rfl hi0 hun0 i h)
    obtain ⟨hiC, hiD⟩ := (hli i hiN).1 (mem_ready.1 hi).1
    have hil : i < l.length := by omega
    have h0 : l[i]? = some l[i] := List.getElem?_eq_getElem hil
    have e1 : opsAt l [i] = [l[i]] := by simp [opsAt, h0]
    have h2 := wO_run (hop i hiC f w _ hfr.out hst) hsm
    rw [e1] at h2
    let QQ : Exit → Act → World → Prop := fun e a' w' => e = .normal ∧ ∃ f', Sm n a' f' ∧ ∃ v R, Ok i v R ∧ f' = up f (dstAt l i) v ∧ St w0 f0 (L0 ++ resA C Rs D ++ [R]) w'
    have hw : wpOp P l.toArray QQ i (wpList P l.toArray QQ []) a w := by
      unfold wpOp
      simp only [List.getElem?_toArray, h0]
      exact h2
    refine wpJ_of_seq.wpOp_mono' (fun a' w' h' => ?_) (fun e a w he h' => absurd h'.1 he) hw
    obtain ⟨_, f', hf', v, R, hokv, rfl, hst'⟩ := h'
    refine ⟨fun _ => ⟨_, by rw [List.append_assoc] at hst'; exact hst'⟩, ?_⟩
    have hne : ∀ j ∈ C, j ≠ i → dstAt l j ≠ dstAt l i := fun j hj hji e => hji (ndB_inj hnd j hj i hiC e)
    refine ih (fun j => Nat.beq j i || D j) (fun j => bif Nat.beq j i then v else vs j) (fun j => bif Nat.beq j i then R else Rs j) _ a' w' _ ?_ (inv.set hi hiN) ?_ ?_ hf' ?_ ?_
    · have := filt_one hiD (ndB_nd hnd) hiC
      omega
    · intro j hj
      by_cases hji : j = i
      · subst hji
        have : j < listed.size := by rw [inv.size]; simp; omega
        simp [this]
      · rw [getD_set_ne true (Ne.symm hji), hli j hj]
        have : Nat.beq j i = false := by cases h : Nat.beq j i; rfl; exact absurd (Nat.eq_of_beq_eq_true h) hji
        simp [this]
    · refine ⟨fun s hs' => ?_, fun j hj hDj => ?_, fun j hj hDj => ?_⟩
      · have := notDst_iff.1 hs' i hiC
        show up f (dstAt l i) v s = F s
        unfold up
        cases e : Nat.beq s (dstAt l i)
        · exact hfr.out s hs'
        · exact absurd (Nat.eq_of_beq_eq_true e).symm this
      · simp only [Bool.or_eq_false_iff] at hDj
        have hji : j ≠ i := fun e => by subst e; simp at hDj
        show up f (dstAt l i) v (dstAt l j) = _
        unfold up
        cases e : Nat.beq (dstAt l j) (dstAt l i)
        · exact hfr.undone j hj hDj.2
        · exact absurd (Nat.eq_of_beq_eq_true e) (hne j hj hji)
      · show up f (dstAt l i) v (dstAt l j) = _
        by_cases hji : j = i
        · subst hji; unfold up; simp
        · have hb : Nat.beq j i = false := by cases h : Nat.beq j i; rfl; exact absurd (Nat.eq_of_beq_eq_true h) hji
          simp only [hb, Bool.false_or] at hDj
          rw [hb]
          unfold up
          cases e : Nat.beq (dstAt l j) (dstAt l i)
          · exact hfr.done j hj hDj
          · exact absurd (Nat.eq_of_beq_eq_true e) (hne j hj hji)
    · intro j hj hDj
      by_cases hji : j = i
      · subst hji; simp; exact hokv
      · have hb : Nat.beq j i = false := by cases h : Nat.beq j i; rfl; exact absurd (Nat.eq_of_beq_eq_true h) hji
        simp only [hb, Bool.false_or] at hDj
        simp only [hb, cond_false]
        exact hok j hj hDj
    · obtain ⟨k, hk⟩ := List.getElem?_of_mem hiC
      have hkl := (List.getElem?_eq_some_iff.1 hk).1
      have h3 := hst'.fill (L0.length + k) (by
        rw [List.getElem?_append_right (by omega), Nat.add_sub_cancel_left]
        unfold resA
        rw [List.getElem?_map, hk]; simp [hiD])
      rw [List.set_append_right _ _ (by omega), Nat.add_sub_cancel_left, resA_set (ndB_nd hnd) hk] at h3
      exact h3

/-- What reads (rs); what lays, in whatever order (C); and the rest from N on. -/
theorem wC_alloc {w w0 : World} {f0 : FP} {L0 : List HP} {f : Fr} {QC : Exit → Fr → World → Prop} {id : Nat} (Ok : Nat → Value → HP → Prop) (N : Nat) (rs C : List Nat) (F : Fr) (hm : P.follows .mixedOrders = true) (hB : mixA .any n l N rs C = true) (H : St w0 f0 L0 w)
    (hread : ∀ w' L', St w0 f0 (L0 ++ L') w' → wO P l.toArray n true (opsAt l rs) (fun f' _ => f' = F) f w')
    (hop : ∀ i ∈ C, ∀ (f : Fr) (w' : World) (L' : List HP), (∀ s, notDst l C s = true → f s = F s) → St w0 f0 (L0 ++ L') w' → wO P l.toArray n false (opsAt l [i]) (fun f' w'' => ∃ v R, Ok i v R ∧ f' = up f (dstAt l i) v ∧ St w0 f0 (L0 ++ L' ++ [R]) w'') f w')
    (htail : ∀ (vs : Nat → Value) (Rs : Nat → HP) w', (∀ i ∈ C, Ok i (vs i) (Rs i)) → St w0 f0 (L0 ++ C.map Rs) w' → wO P l.toArray n false (l.drop N) (fun f' w' => QC .normal f' w') (C.foldl (fun f i => up f (dstAt l i) (vs i)) F) w') :
    wC P n (.region id l.toArray true) QC f w := by
  unfold wC
  intro a ha
  simp only [mixA, Bool.and_eq_true] at hB
  obtain ⟨⟨⟨⟨⟨⟨⟨⟨⟨⟨⟨⟨hsel, hn⟩, hs⟩, hc⟩, hD⟩, hread'⟩, hback⟩, hnd⟩, hCN⟩, hcov⟩, hdis⟩, hlen⟩, hseq⟩ := hB
  have hlen := Nat.eq_of_beq_eq_true hlen
  have hn : N < l.length := by rw [← Nat.blt_eq]; exact hn
  have hCN : ∀ i ∈ C, i < N := fun i hi => by rw [← Nat.blt_eq]; exact List.all_eq_true.1 hCN i hi
  have hC0 : (C.filter fun i => !false).length = C.length := by simp
  refine wp_mono (Q := fun e a' w' => e = .normal ∧ ∃ f', Sm n a' f' ∧ QC .normal f' w') ?_ (by rintro e a' w' ⟨rfl, h⟩; exact h)
  refine wp_region_any hm (wpAny_of_J (J := fun w' => ∃ L', St w0 f0 (L0 ++ L') w') (n := N) _ _ _ _ ?_)
  have H' := H.idle (Step.drew w _)
  have inv0 : HeadInv .any l.toArray N (Array.replicate l.toArray.size false) :=
    ⟨by simp, fun j oj _ hl => (by rw [getD_replicate_false] at hl; cases hl), fun t _ ht => getD_in (by simpa using ht) (getD_replicate_false _ _)⟩
  have hend : ∀ (rs : List Nat) (listed : Array Bool) (i : Nat), i < listed.size → ((endAt rs listed).getD i true = false ↔ (listed.getD i true = false ∧ i ∉ rs)) := by
    intro rs
    induction rs with
    | nil => intro listed i _; simp [endAt]
    | cons k rs ih =>
      intro listed i hi
      show (endAt rs (listed.setIfInBounds k true)).getD i true = false ↔ _
      rw [ih _ i (by simpa using hi)]
      by_cases hik : k = i
      · subst hik; simp [hi]
      · rw [getD_set_ne true hik]; simp [Ne.symm hik]
  have := wpJ_of_read (n := n) (w := w.drew) (P := P) (J := fun w' => ∃ L', St w0 f0 (L0 ++ L') w') (N := N) (md := .any) (l := l) (M := C.length + (l.length - N)) (Q := fun e a' w' => e = .normal ∧ ∃ f', Sm n a' f' ∧ QC .normal f' w') (F := F)
    (fun e a w he h => he h.1) hsel hs hc (by simpa using hn) rs (Array.replicate l.toArray.size false) a ha.size inv0 hD hread' ⟨[], by simpa using H'⟩
    (fun w' ⟨L', hw'⟩ => wC_mix.stillMono (fun a' h => by obtain ⟨f', h1, rfl⟩ := h; exact h1) (wO_still (hread w' L' hw') ha))
    (fun a ha inv => by
      have e0 : resA C (fun _ => emp) (fun _ => false) = C.map fun _ => emp := List.map_congr_left fun i _ => by simp
      have := anyA (P := P) (n := n) (md := .any) (l := l) (Ok := Ok) (QC := QC) hs hc hn hback hnd hCN hseq hop htail C.length (fun _ => false) (fun _ => undef) (fun _ => emp) _ a w.drew F (by simp) inv (fun i hi => by
        rw [hend rs _ i (by simp; omega)]
        have h1 : (Array.replicate l.toArray.size false).getD i true = false := getD_in (by simp; omega) (getD_replicate_false _ _)
        simp only [h1, true_and, and_true]
        have hc1 := List.all_eq_true.1 hcov i (List.mem_range.2 hi)
        constructor
        · intro h2; simp at hc1; exact hc1.resolve_left h2
        · intro h2 h3
          have := List.all_eq_true.1 hdis i h2
          simp at this; exact this h3)
        ⟨fun _ _ => rfl, fun _ _ _ => rfl, fun _ _ h => by cases h⟩ ha (fun _ _ h => by cases h) (by rw [e0]; exact H'.emps C)
      exact this)
  have hlen : rs.length + (C.length + (l.length - N)) = l.toArray.size := by simp; omega
  rw [hlen] at this
  exact this
end
end Go.Proofs.Ytfplmdjlgjgbgaa
