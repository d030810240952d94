/- Layer 15: the order of the blocks; what is at one place has registers of its own, plainly. -/
import Derived.Test.YtfplmdjlgjgbgaaV23
namespace Go.Proofs.Ytfplmdjlgjgbgaa
set_option linter.unusedVariables false
set_option linter.unusedSimpArgs false
open Go Go.RowKit

/-! ### the order -/
structure Trn (n : Nat) (es : Nat → List Int) (l : List Int) (st st' : Vs) (new : List Int) : Prop where
  e : st'.2 = st.2 ++ new
  up : ∀ x t y, new = x ++ t :: y → t ∈ l ∨ ∃ a ∈ y, t ∈ es a.toNat
  len : st'.1.length = n
  mono : ∀ x, nth st.1 x = true → nth st'.1 x = true
  got : ∀ t ∈ l, vld n t = true → nth st'.1 t.toNat = true
  nodup : new.Nodup
  at_ : ∀ t ∈ new, vld n t = true ∧ nth st.1 t.toNat = false ∧ nth st'.1 t.toNat = true ∧ ∀ u ∈ es t.toNat, vld n u = true → nth st'.1 u.toNat = true
  src : ∀ x, nth st'.1 x = true → nth st.1 x = true ∨ (x : Int) ∈ new
  q : ∀ Q : Int → Prop, (∀ t ∈ l, vld n t = true → Q t) → (∀ a, Q a → ∀ u ∈ es a.toNat, vld n u = true → Q u) → ∀ t ∈ new, Q t
theorem vld_at {n : Nat} {t : Int} (h : vld n t = true) : 0 ≤ t ∧ t < n := of_decide_eq_true h
theorem Vl.trn {n : Nat} {es : Nat → List Int} {l : List Int} {st st' : Vs} (h : Vl n es l st st') : st.1.length = n → ∃ new, Trn n es l st st' new := by
  induction h with
  | nil st => exact fun hl => ⟨[], by simp, fun x t y e => by simp at e, hl, fun _ h => h, fun t ht => (nomatch ht), List.nodup_nil, fun t ht => (nomatch ht), fun x h => .inl h, fun _ _ _ t ht => (nomatch ht)⟩
  | @skip t l st st' hn _ ih =>
    intro hl
    obtain ⟨new, T⟩ := ih hl
    refine ⟨new, T.e, fun x u y q => (T.up x u y q).imp (List.mem_cons_of_mem _) id, T.len, T.mono, fun u hu hv => ?_, T.nodup, T.at_, T.src, fun Q h1 h2 => T.q Q (fun u hu => h1 u (List.mem_cons_of_mem _ hu)) h2⟩
    rcases List.mem_cons.1 hu with rfl | hu
    · refine T.mono _ ?_
      cases hs : nth st.1 u.toNat with
      | true => rfl
      | false => exact absurd ⟨hv, hs⟩ hn
    · exact T.got u hu hv
  | go hv hs hV1 hV2 ih1 ih2 =>
    rename_i t l st s1 st'
    intro hl
    obtain ⟨v1, v2⟩ := vld_at hv
    have hx : t.toNat < st.1.length := by omega
    obtain ⟨n1, T1⟩ := ih1 (by show (st.1.set t.toNat true).length = n; rw [List.length_set, hl])
    obtain ⟨n2, T2⟩ := ih2 T1.len
    have hset : ∀ x, nth (st.1.set t.toNat true) x = if x = t.toNat then true else nth st.1 x := fun x => nth_set hx
    have h1 : ∀ x, nth st.1 x = true → nth s1.1 x = true := fun x h => T1.mono x (by show nth (st.1.set t.toNat true) x = true; rw [hset]; split <;> simp_all)
    have ht1 : nth s1.1 t.toNat = true := T1.mono _ (by show nth (st.1.set t.toNat true) _ = true; rw [hset, if_pos rfl])
    have hun : ∀ u ∈ n1, nth st.1 u.toNat = false ∧ u ≠ t := fun u hu => by
      obtain ⟨a1, a2, _⟩ := T1.at_ u hu
      have a2 : nth (st.1.set t.toNat true) u.toNat = false := a2
      rw [hset] at a2
      split at a2
      · cases a2
      · rename_i hne
        exact ⟨a2, fun e => hne (by rw [e])⟩
    have hun2 : ∀ u ∈ n2, nth s1.1 u.toNat = false := fun u hu => (T2.at_ u hu).2.1
    refine ⟨n1 ++ t :: n2, ?_, ?_, T2.len, fun x h => T2.mono x (h1 x h), ?_, ?_, ?_, ?_, ?_⟩
    · have a1 := T1.e
      have a2 := T2.e
      have a1 : s1.2 = st.2 ++ n1 := a1
      have a2 : st'.2 = (s1.2 ++ [t]) ++ n2 := a2
      rw [a2, a1]; simp
    · intro x u y q
      rcases List.append_eq_append_iff.1 q with ⟨as', h3, h4⟩ | ⟨bs, h3, h4⟩
      · cases as' with
        | nil =>
          have : t = u := (List.cons.inj h4).1
          exact .inl (by rw [this]; simp)
        | cons a as' =>
          obtain ⟨_, h5⟩ := List.cons.inj h4
          rcases T2.up as' u y h5 with h6 | h6
          · exact .inl (List.mem_cons_of_mem _ h6)
          · exact .inr h6
      · cases bs with
        | nil =>
          have : u = t := (List.cons.inj h4).1
          exact .inl (by rw [this]; simp)
        | cons a bs =>
          obtain ⟨h5, h6⟩ := List.cons.inj h4
          subst h5
          rcases T1.up x u bs h3 with h7 | ⟨a, h7, h8⟩
          · exact .inr ⟨t, by rw [h6]; simp, h7⟩
          · exact .inr ⟨a, by rw [h6]; simp [h7], h8⟩
    · intro u hu hvu
      rcases List.mem_cons.1 hu with rfl | hu
      · exact T2.mono _ ht1
      · exact T2.got u hu hvu
    · rw [List.nodup_append]
      refine ⟨T1.nodup, List.nodup_cons.2 ⟨fun h => ?_, T2.nodup⟩, fun a ha b hb e => ?_⟩
      · have := hun2 t h
        rw [ht1] at this; cases this
      · subst e
        rcases List.mem_cons.1 hb with h | h
        · exact (hun a ha).2 h
        · have := hun2 a h
          rw [(T1.at_ a ha).2.2.1] at this; cases this
    · intro u hu
      rcases List.mem_append.1 hu with hu | hu
      · obtain ⟨a1, _, a3, a4⟩ := T1.at_ u hu
        exact ⟨a1, (hun u hu).1, T2.mono _ a3, fun w hw hvw => T2.mono _ (a4 w hw hvw)⟩
      · rcases List.mem_cons.1 hu with rfl | hu
        · exact ⟨hv, hs, T2.mono _ ht1, fun w hw hvw => T2.mono _ (T1.got w hw hvw)⟩
        · obtain ⟨a1, a2, a3, a4⟩ := T2.at_ u hu
          refine ⟨a1, ?_, a3, a4⟩
          cases h : nth st.1 u.toNat with
          | false => rfl
          | true =>
            have a2 : nth s1.1 u.toNat = false := a2
            rw [h1 _ h] at a2; cases a2
    · intro x hx'
      rcases T2.src x hx' with h | h
      · rcases T1.src x h with h | h
        · have h : nth (st.1.set t.toNat true) x = true := h
          rw [hset] at h
          split at h
          · rename_i e
            exact .inr (List.mem_append_right _ (by rw [show (x : Int) = t by omega]; simp))
          · exact .inl h
        · exact .inr (List.mem_append_left _ h)
      · exact .inr (List.mem_append_right _ (List.mem_cons_of_mem _ h))
    · intro Q q1 q2 u hu
      have hQt : Q t := q1 t (by simp) hv
      rcases List.mem_append.1 hu with hu | hu
      · exact T1.q Q (fun w hw hvw => q2 t hQt w hw hvw) q2 u hu
      · rcases List.mem_cons.1 hu with rfl | hu
        · exact hQt
        · exact T2.q Q (fun w hw => q1 w (List.mem_cons_of_mem _ hw)) q2 u hu
theorem outs_mem {f : SsaFunc} {a : Nat} (ha : a < f.fBlocks.xs.length) {t : Int} : t ∈ outsOf (waysF f) a ↔ ∃ w ∈ waysQ f a, w.fTo = t ∧ 0 ≤ t ∧ t < f.fBlocks.xs.length := by
  unfold outsOf waysAt
  rw [waysF_at ha, Option.getD_some, List.mem_filter, waysF_len]
  constructor
  · rintro ⟨h1, h2⟩
    obtain ⟨w, h3, h4⟩ := List.mem_map.1 h1
    obtain ⟨h5, h6⟩ := vld_at h2
    exact ⟨w, h3, h4, h5, h6⟩
  · rintro ⟨w, h1, h2, h3, h4⟩
    exact ⟨List.mem_map.2 ⟨w, h1, h2⟩, decide_eq_true ⟨h3, h4⟩⟩
/-- What the order is: all that can be come to, once; each one but the first has a block ahead of it that goes to it. -/
structure OrdG (f : SsaFunc) (o : List Int) : Prop where
  nodup : o.Nodup
  rng : ∀ b ∈ o, 0 ≤ b ∧ b < f.fBlocks.xs.length
  mem : ∀ b : Nat, b < f.fBlocks.xs.length → ((b : Int) ∈ o ↔ nth (reachB7 f) b = true)
  up : ∀ pre b post, o = pre ++ b :: post → (pre = [] ∧ b = 0) ∨ ∃ a ∈ pre, ∃ w ∈ waysQ f a.toNat, w.fTo = b
theorem OrdF.g {f : SsaFunc} {o : List Int} (h : OrdF f o) (h0 : 0 < f.fBlocks.xs.length) : OrdG f o := by
  rcases h with ⟨h, _⟩ | ⟨_, fin, ⟨s1, hV, rfl⟩, hl, rfl⟩
  · omega
  have hlen : (List.replicate f.fBlocks.xs.length false).length = f.fBlocks.xs.length := List.length_replicate
  have hs : ∀ x, nth ((List.replicate f.fBlocks.xs.length false).set 0 true) x = true ↔ x = 0 := fun x => by
    rw [nth_set (by rw [hlen]; exact h0)]
    split
    · rename_i e; simp [e]
    · rename_i e
      rw [show nth (List.replicate f.fBlocks.xs.length false) x = false from nth_rep]
      simp [e]
  obtain ⟨new, T⟩ := hV.trn (by show (List.set _ _ _).length = _; rw [List.length_set, hlen])
  have e1 : s1.2 = new := by have := T.e; simpa using this
  have h0n : (0 : Int) ∉ new := fun h => by
    have := (T.at_ 0 h).2.1
    have h2 := (hs 0).2 rfl
    rw [show ((0 : Int).toNat) = 0 from rfl] at this
    rw [h2] at this; cases this
  show OrdG f (s1.2 ++ [0]).reverse
  rw [e1, List.reverse_append, List.reverse_singleton, List.singleton_append]
  have hseen : ∀ x, nth s1.1 x = true → x = 0 ∨ (x : Int) ∈ new := fun x hx => (T.src x hx).imp (hs x).1 id
  have hnewlt : ∀ t ∈ new, 0 ≤ t ∧ t < f.fBlocks.xs.length := fun t ht => vld_at (T.at_ t ht).1
  have hout : ∀ x, x < f.fBlocks.xs.length → (x = 0 ∨ (x : Int) ∈ new) → ∀ u ∈ outsOf (waysF f) x, u = 0 ∨ u ∈ new := fun x hx hxn u hu => by
    obtain ⟨w, _, _, h2, h3⟩ := (outs_mem hx).1 hu
    have hv : vld f.fBlocks.xs.length u = true := decide_eq_true ⟨h2, h3⟩
    have : nth s1.1 u.toNat = true := by
      rcases hxn with rfl | hxn
      · exact T.got u hu hv
      · exact (T.at_ _ hxn).2.2.2 u (by rw [Int.toNat_natCast]; exact hu) hv
    rcases hseen _ this with h | h
    · exact .inl (by omega)
    · exact .inr (by rw [show u = ((u.toNat : Nat) : Int) by omega]; exact h)
  refine ⟨List.nodup_cons.2 ⟨fun h => h0n (List.mem_reverse.1 h), (by show List.Pairwise _ _; rw [List.pairwise_reverse]; exact T.nodup.imp Ne.symm)⟩, fun b hb => ?_, fun b hb => ?_, fun pre b post e => ?_⟩
  · rcases List.mem_cons.1 hb with rfl | hb
    · omega
    · exact hnewlt b (List.mem_reverse.1 hb)
  · have hr := reach7_ok h0
    rw [List.mem_cons, List.mem_reverse]
    constructor
    · rintro (h | h)
      · rw [show b = 0 by omega]; exact hr.1
      · have := T.q (fun t => 0 ≤ t ∧ t < f.fBlocks.xs.length ∧ nth (reachB7 f) t.toNat = true) (fun t ht hv => ?_) (fun a ha u hu hv => ?_) _ h
        · rw [Int.toNat_natCast] at this
          exact this.2.2
        · obtain ⟨w, h1, h2, h3, h4⟩ := (outs_mem h0).1 ht
          refine ⟨h3, h4, ?_⟩
          have := hr.2.1 0 h0 hr.1 w h1 (by omega) (by omega)
          rwa [h2] at this
        · obtain ⟨w, h1, h2, h3, h4⟩ := (outs_mem (f := f) (a := a.toNat) (by omega)).1 hu
          refine ⟨h3, h4, ?_⟩
          have := hr.2.1 a.toNat (by omega) ha.2.2 w h1 (by omega) (by omega)
          rwa [h2] at this
    · intro h
      have := hr.2.2 (fun x => x = 0 ∨ (x : Int) ∈ new) (.inl rfl) (fun x hx hq w hw a1 a2 => ?_) b h
      · rcases this with h | h
        · exact .inl (by omega)
        · exact .inr h
      · rcases hout x hx hq w.fTo ((outs_mem hx).2 ⟨w, hw, rfl, a1, a2⟩) with h | h
        · exact .inl (by omega)
        · exact .inr (by rw [show ((w.fTo.toNat : Nat) : Int) = w.fTo by omega]; exact h)
  · cases pre with
    | nil =>
      exact .inl ⟨rfl, (List.cons.inj e).1.symm⟩
    | cons a pre =>
      obtain ⟨h1, h2⟩ := List.cons.inj e
      subst h1
      have h3 : new = post.reverse ++ b :: pre.reverse := by
        have := congrArg List.reverse h2
        simpa using this
      refine .inr ?_
      rcases T.up _ _ _ h3 with h4 | ⟨a, h4, h5⟩
      · obtain ⟨w, h6, h7, _⟩ := (outs_mem h0).1 h4
        exact ⟨0, by simp, w, h6, h7⟩
      · have ha := hnewlt a (by rw [h3]; simp only [List.mem_append, List.mem_cons]; exact .inr (.inr h4))
        obtain ⟨w, h6, h7, _⟩ := (outs_mem (f := f) (a := a.toNat) (by omega)).1 h5
        exact ⟨a, List.mem_cons_of_mem _ (List.mem_reverse.1 h4), w, h6, h7⟩
end Go.Proofs.Ytfplmdjlgjgbgaa
