/- Layer 11, of a function: Order. -/
import Derived.Test.YtfplmdjlgjgbgaaV8
namespace Go.Proofs.Ytfplmdjlgjgbgaa
set_option linter.unusedVariables false
set_option linter.unusedSimpArgs false
open Go Go.RowKit

def T0 (n : Nat) (es : Nat → List Int) (fin : Vs) : Prop := ∃ s1, Vl n es (es 0) ((List.replicate n false).set 0 true, []) s1 ∧ fin = (s1.1, s1.2 ++ [0])
/-- Under way. -/
structure Ord8 (n : Nat) (es : Nat → List Int) (st : List Int) (seen : List Bool) (next out : List Int) (rem : List Nat) : Prop where
  go : ∀ F, Rs n es next st (seen, out) F → T0 n es F
  nodup : st.Nodup
  mem : ∀ b ∈ st, 0 ≤ b ∧ b.toNat < n ∧ nth seen b.toNat = true
  zero : ∀ c, c < n → nth seen c = false → nth next c = 0
  rng : ∀ c, c < n → 0 ≤ nth next c ∧ (nth next c).toNat + rem.getD c 0 = (es c).length
  sl : seen.length = n
  nl : next.length = n
  rl : rem.length = n
  cnt : out.length + st.length = seen.count true
/-- One edge more of the block on top; where it goes was seen. -/
theorem Ord8.skip {n : Nat} {es : Nat → List Int} {b : Int} {rest : List Int} {seen : List Bool} {next out : List Int} {rem : List Nat} (h : Ord8 n es (b :: rest) seen next out rem) (hlt : (nth next b.toNat).toNat < (es b.toNat).length)
    (hs : nth seen (nth (es b.toNat) (nth next b.toNat).toNat).toNat = true) : Ord8 n es (b :: rest) seen (next.set b.toNat (nth next b.toNat + 1)) out (rem.set b.toNat (rem.getD b.toNat 0 - 1)) ∧ (rem.set b.toNat (rem.getD b.toNat 0 - 1)).sum + 1 = rem.sum := by
  obtain ⟨m1, m2, m3⟩ := h.mem b (by simp)
  obtain ⟨r1, r2⟩ := h.rng _ m2
  have hnd := (List.nodup_cons.1 h.nodup).1
  have hne : ∀ c ∈ rest, c.toNat ≠ b.toNat := fun c hc e => by
    have := (h.mem c (by simp [hc])).1
    have e2 : c = b := by omega
    exact hnd (e2 ▸ hc)
  refine ⟨⟨fun F hF => h.go F ?_, h.nodup, h.mem, fun c hc hcs => ?_, fun c hc => ?_, h.sl, by rw [List.length_set]; exact h.nl, by rw [List.length_set]; exact h.rl, h.cnt⟩, ?_⟩
  · obtain ⟨s1, h1, h2⟩ := hF
    refine ⟨s1, ?_, h2.congr fun c hc => ?_⟩
    · rw [nth_set (by rw [h.nl]; exact m2), if_pos rfl] at h1
      have e : (nth next b.toNat + 1).toNat = (nth next b.toNat).toNat + 1 := by omega
      rw [e] at h1
      rw [List.drop_eq_getElem_cons hlt]
      refine .skip (fun hh => ?_) h1
      have := hh.2
      rw [← nth_get hlt, hs] at this; cases this
    · rw [nth_set (by rw [h.nl]; exact m2), if_neg (hne c hc)]
  · rw [nth_set (by rw [h.nl]; exact m2)]
    by_cases e : c = b.toNat
    · subst e; rw [m3] at hcs; cases hcs
    · rw [if_neg e]; exact h.zero c hc hcs
  · rw [nth_set (by rw [h.nl]; exact m2)]
    by_cases e : c = b.toNat
    · subst e
      rw [if_pos rfl]
      have : (rem.set b.toNat (rem.getD b.toNat 0 - 1)).getD b.toNat 0 = rem.getD b.toNat 0 - 1 := by simp [h.rl, m2]
      rw [this]; omega
    · rw [if_neg e]
      have : (rem.set b.toNat (rem.getD b.toNat 0 - 1)).getD c 0 = rem.getD c 0 := by
        simp [List.getD_eq_getElem?_getD, List.getElem?_set_ne (Ne.symm e)]
      rw [this]; exact h.rng c hc
  · have := sum_set (l := rem) (i := b.toNat) (x := rem.getD b.toNat 0 - 1) (by rw [h.rl]; exact m2)
    omega
/-- .. where it goes is new. -/
theorem Ord8.push {n : Nat} {es : Nat → List Int} {b : Int} {rest : List Int} {seen : List Bool} {next out : List Int} {rem : List Nat} (hes : ∀ c, ∀ t ∈ es c, vld n t = true) (h : Ord8 n es (b :: rest) seen next out rem) (hlt : (nth next b.toNat).toNat < (es b.toNat).length)
    (hs : nth seen (nth (es b.toNat) (nth next b.toNat).toNat).toNat = false) : Ord8 n es (nth (es b.toNat) (nth next b.toNat).toNat :: b :: rest) (seen.set (nth (es b.toNat) (nth next b.toNat).toNat).toNat true) (next.set b.toNat (nth next b.toNat + 1)) out (rem.set b.toNat (rem.getD b.toNat 0 - 1)) ∧ (rem.set b.toNat (rem.getD b.toNat 0 - 1)).sum + 1 = rem.sum := by
  obtain ⟨m1, m2, m3⟩ := h.mem b (by simp)
  obtain ⟨r1, r2⟩ := h.rng _ m2
  have hv := hes b.toNat _ (nth_mem hlt)
  generalize ht : nth (es b.toNat) (nth next b.toNat).toNat = t at hs hv ⊢
  have hv2 : 0 ≤ t ∧ t < n := by unfold vld at hv; exact of_decide_eq_true hv
  have htn : t.toNat < n := by omega
  have hnd := (List.nodup_cons.1 h.nodup).1
  have hne : ∀ c ∈ rest, c.toNat ≠ b.toNat := fun c hc e => by
    have := (h.mem c (by simp [hc])).1
    have e2 : c = b := by omega
    exact hnd (e2 ▸ hc)
  have htb : t.toNat ≠ b.toNat := fun e => by rw [e, m3] at hs; cases hs
  have hsl := h.sl
  refine ⟨⟨fun F hF => h.go F ?_, ?_, fun c hc => ?_, fun c hc hcs => ?_, fun c hc => ?_, by rw [List.length_set]; exact h.sl, by rw [List.length_set]; exact h.nl, by rw [List.length_set]; exact h.rl, ?_⟩, ?_⟩
  · obtain ⟨s1, h1, s2, h2, h3⟩ := hF
    rw [nth_set (by rw [h.nl]; exact m2), if_neg htb, h.zero _ htn hs] at h1
    rw [nth_set (by rw [h.nl]; exact m2), if_pos rfl] at h2
    have e : (nth next b.toNat + 1).toNat = (nth next b.toNat).toNat + 1 := by omega
    rw [e] at h2
    refine ⟨s2, ?_, h3.congr fun c hc => ?_⟩
    · rw [List.drop_eq_getElem_cons hlt, ← nth_get hlt, ht]
      exact .go hv hs h1 h2
    · rw [nth_set (by rw [h.nl]; exact m2), if_neg (hne c hc)]
  · refine List.nodup_cons.2 ⟨fun hm => ?_, h.nodup⟩
    have := (h.mem t hm).2.2
    rw [hs] at this; cases this
  · rw [nth_set (by rw [hsl]; exact htn)]
    rcases List.mem_cons.1 hc with rfl | hc
    · exact ⟨hv2.1, htn, by rw [if_pos rfl]⟩
    · obtain ⟨q1, q2, q3⟩ := h.mem c hc
      refine ⟨q1, q2, ?_⟩
      split
      · rfl
      · exact q3
  · rw [nth_set (by rw [hsl]; exact htn)] at hcs
    rw [nth_set (by rw [h.nl]; exact m2)]
    split at hcs
    · cases hcs
    · by_cases e : c = b.toNat
      · subst e; rw [m3] at hcs; cases hcs
      · rw [if_neg e]; exact h.zero c hc hcs
  · rw [nth_set (by rw [h.nl]; exact m2)]
    by_cases e : c = b.toNat
    · subst e
      rw [if_pos rfl]
      have : (rem.set b.toNat (rem.getD b.toNat 0 - 1)).getD b.toNat 0 = rem.getD b.toNat 0 - 1 := by simp [h.rl, m2]
      rw [this]; omega
    · rw [if_neg e]
      have : (rem.set b.toNat (rem.getD b.toNat 0 - 1)).getD c 0 = rem.getD c 0 := by
        simp [List.getD_eq_getElem?_getD, List.getElem?_set_ne (Ne.symm e)]
      rw [this]; exact h.rng c hc
  · rw [count_true_set (by rw [hsl]; exact htn) hs, ← h.cnt]; simp; omega
  · have := sum_set (l := rem) (i := b.toNat) (x := rem.getD b.toNat 0 - 1) (by rw [h.rl]; exact m2)
    omega
/-- All its edges were gone. -/
theorem Ord8.pop {n : Nat} {es : Nat → List Int} {b : Int} {rest : List Int} {seen : List Bool} {next out : List Int} {rem : List Nat} (h : Ord8 n es (b :: rest) seen next out rem) (hge : (es b.toNat).length ≤ (nth next b.toNat).toNat) : Ord8 n es rest seen next (out ++ [b]) rem := by
  refine ⟨fun F hF => h.go F ⟨(seen, out), ?_, hF⟩, (List.nodup_cons.1 h.nodup).2, fun c hc => h.mem c (by simp [hc]), h.zero, h.rng, h.sl, h.nl, h.rl, ?_⟩
  · rw [List.drop_eq_nil_of_le hge]; exact .nil _
  · rw [← h.cnt]; simp; omega
theorem Ord8.start {n : Nat} {es : Nat → List Int} (hn : 0 < n) : Ord8 n es [0] ((List.replicate n false).set 0 true) (List.replicate n 0) [] ((List.range n).map fun c => (es c).length) := by
  have h0 : ∀ c, nth (List.replicate n (0 : Int)) c = 0 := fun c => nth_rep (α := Int)
  refine ⟨fun F hF => ?_, by simp, fun b hb => ?_, fun c _ _ => h0 c, fun c hc => ?_, by simp, by simp, by simp, ?_⟩
  · obtain ⟨s1, h1, h2⟩ := hF
    rw [show (0 : Int).toNat = 0 from rfl, h0] at h1
    exact ⟨s1, h1, h2⟩
  · simp at hb; subst hb
    refine ⟨by omega, by simpa using hn, ?_⟩
    rw [show (0 : Int).toNat = 0 from rfl, nth_set (by simpa using hn), if_pos rfl]
  · rw [h0]; simp [hc]
  · rw [count_true_set (l := List.replicate n false) (i := 0) (by simpa using hn) (nth_rep (α := Bool))]
    simp [List.count_replicate]
theorem outsOf_vld {ways : List (List Int)} (c : Nat) : ∀ t ∈ outsOf ways c, vld ways.length t = true := fun t ht => (List.mem_filter.1 ht).2

theorem eq_nth {α : Type} [Enc α] {a b : List α} (hl : a.length = b.length) (h : ∀ q, q < a.length → nth a q = nth b q) : a = b := by
  apply List.ext_getElem hl
  intro q h1 h2
  have := h q h1
  rwa [nth_get h1, nth_get h2] at this
theorem nth_rev {α : Type} [Enc α] {a : List α} {q : Nat} (h : q < a.length) : nth a.reverse q = nth a (a.length - 1 - q) := by
  rw [nth_get (by simpa using h), nth_get (by omega), List.getElem_reverse]
structure OrdSt where
  Aw : Option Addr
  cw : Nat
  lw : Nat
  st : List Int
  seen : List Bool
  next : List Int
  Ao : Option Addr
  co : Nat
  lo : Nat
  out : List Int
  rem : List Nat

theorem Vl.valid {n : Nat} {es : Nat → List Int} {l : List Int} {st st' : Vs} (h : Vl n es l st st') (h0 : ∀ b ∈ st.2, vld n b = true) : ∀ b ∈ st'.2, vld n b = true := by
  induction h with
  | nil _ => exact h0
  | skip _ _ ih => exact ih h0
  | go hv _ _ _ ih1 ih2 =>
    refine ih2 fun b hb => ?_
    rcases List.mem_append.1 hb with hb | hb
    · exact ih1 h0 b hb
    · rw [List.mem_singleton] at hb; subst hb; exact hv
theorem T0.valid {n : Nat} {es : Nat → List Int} {fin : Vs} (hn : 0 < n) (h : T0 n es fin) : ∀ b ∈ fin.2, 0 ≤ b ∧ b < n := by
  obtain ⟨s1, h1, rfl⟩ := h
  intro b hb
  have : vld n b = true := by
    rcases List.mem_append.1 hb with hb | hb
    · exact h1.valid (fun _ h => by cases h) b hb
    · rw [List.mem_singleton] at hb; subst hb; unfold vld; exact decide_eq_true (by omega)
  unfold vld at this
  exact of_decide_eq_true this
theorem len15_spec (gb : Nat) (g : FlowGraph) : Spec Try.prog 26 [.pointer (some ⟨gb, 0, none⟩)] [] (fun ok w => RdB ok w gb g) fun v L' => v = .int .i64 (g.fOuts.xs.length : Nat) ∧ L' = [] := by
  refine spec_of Try.func26 rfl rfl fun w0 f0 hB => ?_
  (repeat' (first | refine s_move ?_ | refine s_assign ?_ | refine s_nil ?_ | (refine k_C ?_; first | refine s_seq ?_ | refine s_region ?_ | refine s_skip ?_ | refine s_ret ?_ | refine s_iff rfl ?_) | (refine k_E ?_; refine e_seq ?_) | (refine k_load ?_; refine s_ldRB rfl rfl ?_) | (refine k_bin ?_; refine s_pnil rfl rfl ?_) | (refine k_fld ?_; refine s_fldB rfl ?_) | (refine k_call ?_; refine s_len rfl ?_) | refine s_nilck rfl ?_))
  exact e_done rfl rfl _ (PSub.take [] rfl) ⟨rfl, rfl⟩
set_option maxHeartbeats 4000000 in
theorem order15_spec {gb n : Nat} {ways : List (List Int)} {g : FlowGraph} (hn : n ≤ 1000) (hw : ways.length = n) (hwl : ∀ l ∈ ways, l.length ≤ 1000) (hgl : g.fOuts.xs.length = n) (hrow : ∀ c, c < n → (nth g.fOuts.xs c).xs = outsOf ways c) :
    Spec Try.prog 18 [.pointer (some ⟨gb, 0, none⟩)] [] (fun ok w => RdB ok w gb g ∧ RdD ok w g.fOuts) fun v L' => (n = 0 ∧ v = .slice none 0 0 ∧ L' = []) ∨ (0 < n ∧ ∃ A l c fin, v = .slice A l c ∧ T0 n (outsOf ways) fin ∧ fin.2.length ≤ n ∧ l = fin.2.length ∧ L' = [own 3 A l c fin.2.reverse]) := by
  refine spec_of Try.func18 rfl rfl fun w0 f0 ⟨hB, hO⟩ => ?_
  (repeat' (first | refine s_move ?_ | refine s_assign ?_ | refine s_nil ?_ | (refine k_C ?_; first | refine s_seq ?_ | refine s_region ?_) | (refine k_E ?_; refine e_seq ?_)))
  refine s_call0 (len15_spec gb g) rfl (fun w1 H => ⟨hB.h.loc H.ok0⟩) ?_
  rintro v L' ⟨rfl, rfl⟩
  rw [hgl]
  (repeat' (first | refine s_move ?_ | refine s_assign ?_ | refine s_nil ?_ | (refine k_C ?_; first | refine s_seq ?_ | refine s_region ?_ | refine s_skip ?_ | refine s_block ?_ | refine s_ret ?_ | (refine s_ifd rfl ?_ ?_ <;> intro hc <;> try (exfalso; omega))) | (refine k_E ?_; first | refine e_seq ?_ | refine e_seq_ret ?_) | (refine k_bin ?_; refine s_eql rfl rfl ?_) | (refine k_idx ?_; refine s_idx rfl rfl om ?_) | (refine k_store ?_; refine s_st _ rfl rfl om ?_) | (refine s_make rfl rfl om ?_; intro b) | (refine s_lit [_] rfl (by decide) rfl ?_; intro b)))
  · exact e_done rfl rfl _ (PSub.take [] rfl) (.inl ⟨by omega, rfl, rfl⟩)
  rename_i b4 b5
  obtain ⟨b6, rfl⟩ : ∃ q, q = b := ⟨_, rfl⟩
  have hlen : ∀ c, c < n → (nth g.fOuts.xs c).xs.length ≤ 1000 := fun c hc => by
    rw [hrow c hc]
    refine Nat.le_trans (List.length_filter_le _ _) ?_
    unfold waysAt
    cases h : ways[c]? with
    | none => simp
    | some l => exact hwl l (List.mem_of_getElem? h)
  refine s_loop (σ := OrdSt) (fun s => [(0, .pointer (some ⟨gb, 0, none⟩)), (4, .slice (some ⟨b4, 0, none⟩) n n), (5, .slice (some ⟨b5, 0, none⟩) n n), (6, .slice s.Aw s.lw s.cw), (7, .slice s.Ao s.lo s.co)])
    (fun s => [own 3 s.Aw s.lw s.cw s.st.reverse, own 3 (some ⟨b5, 0, none⟩) n n s.next, own 4 (some ⟨b4, 0, none⟩) n n s.seen, own 3 s.Ao s.lo s.co s.out])
    (fun s => Ord8 n (outsOf ways) s.st s.seen s.next s.out s.rem ∧ s.lw = s.st.length ∧ s.lo = s.out.length) (fun s => 2 * s.rem.sum + s.st.length)
    ⟨some ⟨b6, 0, none⟩, 1, 1, [0], (List.replicate n false).set 0 true, List.replicate n 0, none, 0, 0, [], (List.range n).map fun c => (outsOf ways c).length⟩ (by repeat (first | exact trivial | refine ⟨rfl, ?_⟩)) ⟨Ord8.start (by omega), rfl, rfl⟩
    ((PSub.nilOwn 3).trans (PSub.take [1, 1, 1, 0] rfl)) ?_
  rintro f ⟨Aw, cw, lw, st, seen, next, Ao, co, lo, out, rem⟩ ⟨hO, hlw, hlo⟩
  simp only at hO hlw hlo ⊢
  have hct := hO.cnt
  have hcl := List.count_le_length (a := true) (l := seen)
  rw [hO.sl] at hcl
  rcases st with _ | ⟨tb, rest⟩
  · simp only [List.length_nil] at hlw
    subst hlw
    (repeat' (first | refine s_move ?_ | refine s_assign ?_ | refine s_nil ?_ | (refine k_C ?_; first | refine s_seq ?_ | refine s_region ?_ | refine s_block ?_ | refine s_exit ?_ | refine s_iff rfl ?_) | (refine k_E ?_; first | refine e_seq ?_ | refine e_seq_exit ?_ | refine e_bk_exit ?_ | refine e_lp_exit ?_) | (refine k_bin ?_; first | refine s_sub64 rfl rfl om ?_ | refine s_gtr rfl rfl ?_) | (refine k_call ?_; refine s_len rfl ?_)))
    obtain ⟨s1, hV, hfin⟩ := hO.go (seen, out) rfl
    refine s_loop (σ := Nat × Int × List Int) (fun st => [(7, .slice Ao lo co), (10, .int .i64 (st.1 : Nat)), (11, .int .i64 st.2.1)]) (fun st => [own 3 Ao lo co st.2.2])
      (fun st => st.1 ≤ lo ∧ st.2.1 = (lo : Int) - 1 - st.1 ∧ st.2.2.length = lo ∧ ∀ q, q < lo → nth st.2.2 q = if q < st.1 ∨ lo - 1 - q < st.1 then nth out (lo - 1 - q) else nth out q) (fun st => lo - st.1) (0, (lo : Int) - 1, out) (by repeat (first | exact trivial | refine ⟨rfl, ?_⟩)) ⟨Nat.zero_le _, by simp, hlo.symm, fun q hq => by rw [if_neg (by omega)]⟩ (PSub.take [3] rfl) ?_
    rintro f ⟨i, kk, cur⟩ ⟨hi, hkk, hcl2, hcur⟩
    simp only at hi hkk hcl2 hcur ⊢
    (repeat' (first | refine s_move ?_ | refine s_assign ?_ | refine s_nil ?_ | (refine k_C ?_; first | refine s_seq ?_ | refine s_region ?_ | refine s_skip ?_ | refine s_block ?_ | refine s_exit ?_ | refine s_ret ?_ | (refine s_ifd rfl ?_ ?_ <;> intro hc <;> try (exfalso; omega))) | (refine k_E ?_; first | refine e_seq ?_ | refine e_seq_exit ?_ | refine e_bk_exit ?_ | refine e_lp_exit ?_) | (refine k_bin ?_; refine s_lss rfl rfl ?_)))
    · refine s_swap (F1 := ?F1) (F := ?F) 12 [2, 3] [0, 1, 4, 5, 6, 7, 8, 9, 10, 11] foI (by kernel_rfl) ?h0 ?h1 ?h2
      case h0 =>
        intro w1
        (repeat' (first | refine s_move ?_ | refine s_nil ?_))
        exact e_F
      case h1 =>
        (repeat' (first | refine s_move ?_ | refine s_nil ?_ | (refine k_load ?_; refine s_ld rfl om rfl ?_) | (refine k_idx ?_; first | refine s_idx rfl rfl om ?_ | refine s_idxI rfl rfl om om ?_)))
        exact e_F
      case h2 =>
        (repeat' (first | refine s_move ?_ | refine s_assign ?_ | refine s_nil ?_ | (refine k_C ?_; refine s_region ?_) | (refine k_E ?_; first | refine e_seq ?_ | refine e_bk ?_) | (refine k_bin ?_; first | refine s_add1 rfl rfl om ?_ | refine s_sub64 rfl rfl om ?_) | (refine k_idx ?_; first | refine s_idx rfl rfl om ?_ | refine s_idxI rfl rfl om om ?_) | (refine k_store ?_; refine s_st _ rfl rfl om ?_)))
        have hkn : kk.toNat = lo - 1 - i := by omega
        refine e_lp (i + 1, kk - 1, (cur.set i (nth cur kk.toNat)).set kk.toNat (nth cur i)) (by repeat (first | exact trivial | refine ⟨rfl, ?_⟩)) ⟨by omega, by simp only; omega, by simp; omega, fun q hq => ?_⟩ (by show _ - _ < _ - _; omega) PSub.refl
        show nth ((cur.set i (nth cur kk.toNat)).set kk.toNat (nth cur i)) q = if q < i + 1 ∨ lo - 1 - q < i + 1 then nth out (lo - 1 - q) else nth out q
        rw [nth_set (by rw [List.length_set]; omega), nth_set (by omega), hkn, hcur i (by omega), hcur (lo - 1 - i) (by omega), hcur q hq]
        rw [if_neg (show ¬ (i < i ∨ lo - 1 - i < i) by omega), if_neg (show ¬ (lo - 1 - i < i ∨ lo - 1 - (lo - 1 - i) < i) by omega)]
        by_cases e1 : q = lo - 1 - i
        · rw [if_pos e1, if_pos (by omega)]; congr 1; omega
        · rw [if_neg e1]
          by_cases e2 : q = i
          · rw [if_pos e2, if_pos (by omega)]; congr 1; omega
          · rw [if_neg e2]
            by_cases e3 : q < i ∨ lo - 1 - q < i
            · rw [if_pos e3, if_pos (by omega)]
            · rw [if_neg e3, if_neg (by omega)]
    · have e1 : cur = out.reverse := by
        refine eq_nth (by rw [List.length_reverse]; omega) fun q hq => ?_
        rw [hcur q (by omega), nth_rev (by omega), ← hlo]
        split
        · rfl
        · congr 1; omega
      refine e_done rfl rfl _ PSub.refl (.inr ⟨by omega, Ao, lo, co, (seen, out), rfl, ⟨s1, hV, hfin⟩, by show out.length ≤ n; simp only [List.length_nil] at hct; omega, hlo, by rw [e1]⟩)
  · simp only [List.length_cons] at hlw hct
    have htop : nth (tb :: rest).reverse (((lw : Nat) : Int) - 1).toNat = tb := by
      have e : (((lw : Nat) : Int) - 1).toNat = rest.reverse.length := by rw [List.length_reverse]; omega
      rw [e, List.reverse_cons]
      exact nth_of (by rw [List.getElem?_append_right (Nat.le_refl _), Nat.sub_self]; rfl)
    (repeat' (first | refine s_move ?_ | refine s_assign ?_ | refine s_nil ?_ | (refine k_C ?_; first | refine s_seq ?_ | refine s_region ?_ | refine s_stillP foI rfl (by kernel_rfl) ?_ | refine s_skip ?_ | refine s_block ?_ | (refine s_ifd rfl ?_ ?_ <;> intro hc <;> try (exfalso; omega))) | (refine k_E ?_; refine e_seq ?_) | (refine k_load ?_; refine s_ld rfl om rfl ?_) | (refine k_bin ?_; first | refine s_sub64 rfl rfl om ?_ | refine s_gtr rfl rfl ?_) | (refine k_idx ?_; refine s_idxI rfl rfl om om ?_) | (refine k_call ?_; refine s_len rfl ?_)))
    rw [htop]
    obtain ⟨m1, m2, m3⟩ := hO.mem tb (by simp)
    obtain ⟨r1, r2⟩ := hO.rng _ m2
    have hr := hrow tb.toNat m2
    have hln := hlen tb.toNat m2
    rw [← hr] at r2
    have hvt : (nth next tb.toNat).toNat < (nth g.fOuts.xs tb.toNat).xs.length → 0 ≤ nth (nth g.fOuts.xs tb.toNat).xs (nth next tb.toNat).toNat ∧ nth (nth g.fOuts.xs tb.toNat).xs (nth next tb.toNat).toNat < n := fun h => by
      have := outsOf_vld tb.toNat _ (show nth (nth g.fOuts.xs tb.toNat).xs (nth next tb.toNat).toNat ∈ outsOf ways tb.toNat by rw [← hr]; exact nth_mem h)
      unfold vld at this
      rw [hw] at this
      exact of_decide_eq_true this
    have hes : ∀ c, ∀ t ∈ outsOf ways c, vld n t = true := fun c t ht => by rw [← hw]; exact outsOf_vld c t ht
    (repeat' (first | refine s_move ?_ | refine s_assign ?_ | refine s_nil ?_ | (refine k_C ?_; first | refine s_seq ?_ | refine s_region ?_ | refine s_stillP foI rfl (by kernel_rfl) ?_ | refine s_skip ?_ | refine s_exit ?_ | (refine s_ifd rfl ?_ ?_ <;> intro hc <;> try (exfalso; omega)) | (refine s_if rfl ?_ ?_ <;> intro hc)) | (refine k_E ?_; first | refine e_seq ?_ | refine e_seq_exit ?_ | refine e_bk_exit ?_ | refine e_bk ?_) | (refine k_load ?_; first | refine s_ldRB rfl rfl ?_ | refine s_ld rfl om rfl ?_ | refine s_ldS rfl rfl om rfl ?_) | (refine k_bin ?_; first | refine s_lss rfl rfl ?_ | refine s_add64 rfl rfl om ?_ | refine s_sub64 rfl rfl om ?_) | (refine k_fld ?_; refine s_fldB rfl ?_) | (refine k_idx ?_; first | refine s_idxI rfl rfl om om ?_ | refine s_idxSI rfl rfl om om ?_) | (refine k_store ?_; refine s_st _ rfl rfl om ?_) | (refine k_call ?_; refine s_len rfl ?_) | refine s_cutH rfl rfl om om ?_ | refine s_not rfl ?_ | refine s_nilck rfl ?_ | (refine s_app1 _ (fun _ => rfl) rfl om ?_; intro v A c)))
    · have hp := hO.push hes (by rw [← hr]; omega) (by rw [← hr]; have h : (!nth seen (nth (nth g.fOuts.xs tb.toNat).xs (nth next tb.toNat).toNat).toNat) = true := (by assumption); simpa using h)
      rw [← hr] at hp
      refine e_lp ⟨A, c, lw + 1, nth (nth g.fOuts.xs tb.toNat).xs (nth next tb.toNat).toNat :: tb :: rest, seen.set (nth (nth g.fOuts.xs tb.toNat).xs (nth next tb.toNat).toNat).toNat true, next.set tb.toNat (nth next tb.toNat + 1), Ao, co, lo, out, rem.set tb.toNat (rem.getD tb.toNat 0 - 1)⟩ (by repeat (first | exact trivial | refine ⟨rfl, ?_⟩)) ⟨hp.1, by simp; omega, hlo⟩ ?_ (PSub.eq (by simp))
      have := hp.2
      show 2 * _ + (_ :: _ :: rest).length < 2 * _ + (_ :: rest).length
      simp only [List.length_cons]
      omega
    · have hp := hO.skip (by rw [← hr]; omega) (by rw [← hr]; have h : (!nth seen (nth (nth g.fOuts.xs tb.toNat).xs (nth next tb.toNat).toNat).toNat) = false := (by assumption); simpa using h)
      refine e_lp ⟨Aw, cw, lw, tb :: rest, seen, next.set tb.toNat (nth next tb.toNat + 1), Ao, co, lo, out, rem.set tb.toNat (rem.getD tb.toNat 0 - 1)⟩ (by repeat (first | exact trivial | refine ⟨rfl, ?_⟩)) ⟨hp.1, by simp; omega, hlo⟩ ?_ PSub.refl
      have := hp.2
      dsimp only
      omega
    · have hp := hO.pop (by rw [← hr]; omega)
      refine e_lp ⟨Aw, cw, (((lw : Nat) : Int) - 1).toNat, rest, seen, next, A, c, lo + 1, out ++ [tb], rem⟩ (by repeat (first | exact trivial | refine ⟨rfl, ?_⟩)) ⟨hp, by simp only; omega, by simp; omega⟩ ?_ (PSub.eq ?_)
      · show 2 * _ + rest.length < 2 * _ + (_ :: rest).length
        simp only [List.length_cons]; omega
      · have e : (((lw : Nat) : Int) - 1).toNat = rest.reverse.length := by rw [List.length_reverse]; omega
        have e2 : (tb :: rest).reverse.take (((lw : Nat) : Int) - 1).toNat = rest.reverse := by rw [e, List.reverse_cons, List.take_left' rfl]
        rw [e2]

theorem Ctx.bagRd {w0 w1 : World} {f0 f1 : FP} {L1 L2 : List HP} {U k b : Nat} {mi : Nat → Nat} {I : Nat → Int → Bool} (C : Ctx w0 f0 L1 L2 w1 f1) (i : Nat) (hi : L2[i]? = some (bagM U k mi I)) (hb : b < k) : RdPs (some (mi b)) U (I b) (okOf w1 f1) w1 := by
  obtain ⟨g, hA, hok⟩ := C.piece hi
  obtain ⟨g1, h1, h2⟩ := star_at hA (i := b) (X := mp EB 3 (mi b) U (setP (I b))) (by rw [List.getElem?_map, List.getElem?_range hb]; rfl)
  exact .inr ⟨mi b, rfl, hok _ (h2 _ ((h1.1 _).2 rfl)), h1.2⟩
theorem waysF_le {f : SsaFunc} (hf : OkF f) : ∀ l ∈ waysF f, l.length ≤ 1000 := fun l hl => by
  obtain ⟨b, hb, rfl⟩ := List.mem_map.1 hl
  obtain ⟨k, hk, rfl⟩ := List.getElem_of_mem hb
  rw [List.length_map, ← nth_get hk]
  exact (hf.k k hk).w
/-- The order in which blocks are gone over. -/
def OrdF (f : SsaFunc) (o : List Int) : Prop := (f.fBlocks.xs.length = 0 ∧ o = []) ∨ (0 < f.fBlocks.xs.length ∧ ∃ fin, T0 f.fBlocks.xs.length (outsOf (waysF f)) fin ∧ fin.2.length ≤ f.fBlocks.xs.length ∧ o = fin.2.reverse)
theorem OrdF.at {f : SsaFunc} {o : List Int} (h : OrdF f o) : (∀ b ∈ o, 0 ≤ b ∧ b < f.fBlocks.xs.length) ∧ o.length ≤ f.fBlocks.xs.length := by
  rcases h with ⟨h, rfl⟩ | ⟨h, fin, h1, h2, rfl⟩
  · exact ⟨fun b hb => by (cases hb), Nat.zero_le _⟩
  · exact ⟨fun b hb => h1.valid h b (List.mem_reverse.1 hb), by rw [List.length_reverse]; exact h2⟩
theorem Spec.weakenP {P : Program} {g : FuncId} {vs : List Value} {L1 : List HP} {Rd : FP → World → Prop} {RR RR' : Value → List HP → Prop} (h : Spec P g vs L1 Rd RR) (hq : ∀ v L', RR v L' → ∃ L'', RR' v L'' ∧ ∀ w0 f0, PSub w0 f0 L' L'') : Spec P g vs L1 Rd RR' :=
  fun w1 f1 hs hR => (h w1 f1 hs hR).mono fun v w' ⟨L', h1, h2⟩ => by
    obtain ⟨L'', h3, h4⟩ := hq v L' h1
    exact ⟨L'', h3, h4 _ _ _ h2⟩
theorem St.varRd {w0 w : World} {f0 : FP} {L : List HP} {α : Type} [I : Enc α] {e : TypeId} {b : Nat} {u : α} {put : HP → List HP} (H : St w0 f0 L w) [hp : PcB L b (var e b u) put] : RdB (okOf w fun _ => False) w b u := by
  obtain ⟨i, h1, _⟩ := hp.at_
  obtain ⟨g, hg, _⟩ := H.focus i h1
  refine ⟨⟨⟨(var e b u).dom hg b ((hg.1 b).2 rfl), id⟩, fun j v hj => ?_⟩⟩
  rw [add_spot rfl]
  show w.cell? ⟨b, 0 + j, none⟩ = some v
  rw [Nat.zero_add, blk.cell hg j]; exact hj
theorem ordF_spec (f : SsaFunc) (hf : OkF f) (gb : Nat) (g : FlowGraph) (hG : GraphOk f g) : Spec Try.prog 18 [.pointer (some ⟨gb, 0, none⟩)] [] (fun ok w => RdB ok w gb g ∧ RdD ok w g.fOuts) fun v L' => ∃ A c o, v = .slice A o.length c ∧ OrdF f o ∧ L' = [own 3 A o.length c o] := by
  refine (order15_spec hf.b waysF_len (waysF_le hf) hG.ol hG.o).weakenP ?_
  rintro v L' (⟨h1, rfl, rfl⟩ | ⟨h1, A, l, c, fin, rfl, h2, h3, rfl, rfl⟩)
  · exact ⟨_, ⟨none, 0, [], rfl, .inl ⟨h1, rfl⟩, rfl⟩, fun _ _ => PSub.nilOwn (α := Int) 3⟩
  · exact ⟨_, ⟨A, c, fin.2.reverse, by rw [List.length_reverse], .inr ⟨h1, fin, h2, h3, rfl⟩, by rw [List.length_reverse]⟩, fun _ _ => PSub.refl⟩
theorem PSub.under {w0 : World} {f0 : FP} {L L' : List HP} {X : HP} (h : ∀ w0 f0, PSub w0 f0 L L') : PSub w0 f0 (X :: L) (X :: L') := fun w H => by
  obtain ⟨g, ⟨f1, f2, e1, e2, h1, h2⟩, hb⟩ := H.sf
  obtain ⟨_, f3, h3, h4⟩ := h w f2 w (St.start h2)
  have h5 : ∀ b, f3 b → f2 b := fun b hb3 => (h4 b hb3).resolve_right (Nat.not_le.2 (h3.dom b hb3))
  exact ⟨H.step, fun b => f1 b ∨ f3 b, ⟨f1, f3, fun b => Iff.rfl, fun b hb1 hb3 => e2 b hb1 (h5 b hb3), h1, h3⟩, fun b hb' => hb b ((e1 b).2 (hb'.imp id (h5 b)))⟩
theorem graph_rd {w0 w : World} {f0 : FP} {L : List HP} {f : SsaFunc} {gb : Nat} {g : FlowGraph} (hf : OkF f) (hG : GraphOk f g) (H : St w0 f0 ([var 78 gb g, own 23 g.fOuts.A g.fOuts.xs.length g.fOuts.c g.fOuts.xs, rws 3 g.fOuts.xs] ++ L) w) : RdB (okOf w fun _ => False) w gb g ∧ RdD (okOf w fun _ => False) w g.fOuts := by
  have H' : St w0 f0 (var 78 gb g :: own 23 g.fOuts.A g.fOuts.xs.length g.fOuts.c g.fOuts.xs :: rws 3 g.fOuts.xs :: L) w := H
  refine ⟨H'.varRd, (H'.rdRows (A := g.fOuts.A) 2 rfl fun s hs x hx => ?_).2⟩
  obtain ⟨k, hk, rfl⟩ := List.getElem_of_mem hs
  rw [← nth_get hk, hG.o k (by rw [← hG.ol]; exact hk)] at hx
  have := (List.mem_filter.1 hx).2
  unfold vld at this
  have := of_decide_eq_true this
  have hn := hf.b
  rw [waysF_len] at this
  show wfi x
  unfold wfi
  omega
/-- What may stand in a set, parameters among it. -/
def usP (f : SsaFunc) : List Int := usU f ++ f.fBlocks.xs.flatMap fun b => b.fParams.xs
def pressB (f : SsaFunc) (I O : Nat → Int → Bool) (m : Nat) (q : Nat) : Nat := atS (pressI (usP f) (nth f.fBlocks.xs q)) (nth f.fBlocks.xs q) (O q) (max m (cardU (usP f) (addL (I q) (nth f.fBlocks.xs q).fParams.xs))) 0
def pressF (f : SsaFunc) (I O : Nat → Int → Bool) (o : List Int) : Nat := o.foldl (fun m q => pressB f I O m q.toNat) 0
set_option maxHeartbeats 8000000 in
theorem press15_spec (f : SsaFunc) (hf : OkF f) (hup : (usP f).length ≤ 900000000) : Spec Try.prog 10 [.agg (Enc.enc f).toArray] [] (fun ok w => RdD ok w f) fun r L' => ∃ I O o, FixQ f I O ∧ OrdF f o ∧ r = .int .i64 (pressF f I O o : Nat) ∧ L' = [] := by
  refine spec_of Try.func10 rfl rfl fun w0 f0 hR => ?_
  have hn := hf.b
  have hul := hf.u
  (repeat' (first | refine s_assign ?_ | refine s_nil ?_ | (refine k_C ?_; first | refine s_seq ?_ | refine s_region ?_) | (refine k_E ?_; refine e_seq ?_) | (refine k_load ?_; refine s_ldBW rfl rfl ?_) | (refine s_box _ rfl ?_; intro b)))
  obtain ⟨b1, rfl⟩ : ∃ q, q = b := ⟨_, rfl⟩
  refine s_call0 (of15_spec f hf) rfl (fun w1 H => H.rdD (by infer_instance)) ?_
  rintro r L' ⟨Si, So, mi, mo, I, O, rfl, hQ, hSi, hSo, rfl⟩
  (repeat' (first | refine s_nil ?_ | (refine k_C ?_; first | refine s_seq ?_ | refine s_region ?_) | (refine k_E ?_; refine e_seq ?_) | (refine k_load ?_; refine s_ldBW rfl rfl ?_) | (refine k_store ?_; refine s_stW _ rfl rfl ?_) | (refine s_alloc ?_; intro b)))
  rename_i b3
  obtain ⟨b4, rfl⟩ : ∃ q, q = b := ⟨_, rfl⟩
  refine s_call0 (new15_spec f hf) rfl (fun w1 H => H.rdD (by infer_instance)) ?_
  rintro r L' ⟨gb, g, rfl, hG, rfl⟩
  refine so_sub (L' := [var 78 gb g, own 23 g.fOuts.A g.fOuts.xs.length g.fOuts.c g.fOuts.xs, rws 3 g.fOuts.xs] ++ [var 3 b4 (0 : Int), var 52 b3 (⟨Si, So⟩ : LiveSets), own 58 Si.A Si.xs.length Si.c Si.xs, own 58 So.A So.xs.length So.c So.xs, bagM (usU f).length f.fBlocks.xs.length mi I, bagM (usU f).length f.fBlocks.xs.length mo O, var 38 b1 f]) (PSub.take [0, 0, 0, 3, 3, 3, 3, 3, 3, 3] rfl) ?_
  refine s_call0 (ordF_spec f hf gb g hG) rfl (fun w1 H => graph_rd hf hG H) ?_
  rintro r L' ⟨A, c, o, rfl, ho, rfl⟩
  obtain ⟨hov, hol⟩ := ho.at
  (repeat' (first | refine s_move ?_ | refine s_nil ?_ | (refine k_C ?_; refine s_block ?_) | (refine k_E ?_; refine e_seq ?_) | (refine k_call ?_; refine s_len rfl ?_)))
  refine s_loop (σ := Nat × Nat) (fun z => [(1, .pointer (some ⟨b1, 0, none⟩)), (3, .pointer (some ⟨b3, 0, none⟩)), (4, .pointer (some ⟨b4, 0, none⟩)), (16, .slice A o.length c), (17, .int .i64 o.length), (18, .int .i64 (z.1 : Nat))])
    (fun z => [own 3 A o.length c o, var 3 b4 (z.2 : Int), var 52 b3 (⟨Si, So⟩ : LiveSets), own 58 Si.A Si.xs.length Si.c Si.xs, own 58 So.A So.xs.length So.c So.xs, bagM (usU f).length f.fBlocks.xs.length mi I, bagM (usU f).length f.fBlocks.xs.length mo O, var 38 b1 f])
    (fun z => z.1 ≤ o.length ∧ z.2 = pressF f I O (o.take z.1)) (fun z => o.length - z.1) (0, 0) (by repeat (first | exact trivial | refine ⟨rfl, ?_⟩)) ⟨Nat.zero_le _, rfl⟩ (PSub.take [0, 3, 3, 3, 3, 3, 3, 3] rfl) ?_
  rintro g2 ⟨i, m⟩ ⟨hi, hm⟩
  dsimp only at hi hm ⊢
  (repeat' (first | refine s_nil ?_ | (refine k_C ?_; first | refine s_seq ?_ | refine s_region ?_) | (refine k_E ?_; refine e_seq ?_) | (refine k_bin ?_; refine s_lss rfl rfl ?_)))
  (first | (refine k_C ?_; (refine s_ifd rfl ?_ ?_ <;> intro hc <;> try (exfalso; omega))))
  rotate_left
  · have hiE : i = o.length := by omega
    subst hiE
    rw [List.take_length] at hm
    (repeat' (first | refine s_assign ?_ | refine s_nil ?_ | (refine k_C ?_; first | refine s_seq ?_ | refine s_region ?_ | refine s_exit ?_ | refine s_ret ?_) | (refine k_E ?_; first | refine e_seq ?_ | refine e_seq_exit ?_ | refine e_bk_exit ?_ | refine e_lp_exit ?_) | (refine k_load ?_; refine s_ldB rfl rfl ?_)))
    exact e_done rfl rfl [] (PSub.take [] rfl) ⟨I, O, o, hQ, ho, by rw [← hm]; rfl, rfl⟩
  have hin : i < o.length := by omega
  obtain ⟨hq0, hq1⟩ := hov _ (nth_mem hin)
  have hSl := hSi.1
  have hSl2 := hSo.1
  (repeat' (first | refine s_move ?_ | refine s_assign ?_ | refine s_nil ?_ | (refine k_C ?_; first | refine s_seq ?_ | refine s_region ?_ | refine s_skip ?_ | refine s_block ?_) | (refine k_E ?_; refine e_seq ?_) | (refine k_load ?_; first | refine s_ldB rfl rfl ?_ | refine s_ld rfl om rfl ?_ | refine s_ldSA rfl rfl om rfl ?_) | (refine k_fld ?_; refine s_fldB rfl ?_) | (refine k_idx ?_; first | refine s_idx rfl rfl om ?_ | refine s_idxI rfl rfl om om ?_ | refine s_idxSI rfl rfl om om ?_) | (refine k_store ?_; refine s_stW _ rfl rfl ?_) | (refine s_alloc ?_; intro b) | (refine s_mkmapB ?_; intro b)))
  rename_i b7
  obtain ⟨mm, rfl⟩ : ∃ q, q = b := ⟨_, rfl⟩
  have hqn : (nth o i).toNat < f.fBlocks.xs.length := by omega
  have hpf : pressF f I O (o.take (i + 1)) = pressB f I O m (nth o i).toNat := by rw [hm, ← takeN hin]; unfold pressF; rw [List.foldl_append]; rfl
  rw [hSi.2 _ hqn]
  have hblR : RdD (okOf w0 f0) w0 (nth f.fBlocks.xs (nth o i).toNat) := by infer_instance
  have hblB := hf.k _ hqn
  have hus := hQ.inv.us _ hqn
  have hbu : ∀ k, k ∈ usB (nth f.fBlocks.xs (nth o i).toNat) → k ∈ usU f := fun k h => usB_in hqn h
  have hpu : ∀ k, k ∈ (nth f.fBlocks.xs (nth o i).toNat).fParams.xs → k ∈ usP f := fun k h => List.mem_append_right _ (List.mem_flatMap.2 ⟨_, nth_mem hqn, h⟩)
  unfold pressB at hpf
  generalize hqd : (nth o i).toNat = q at hqn hpf hblR hblB hus hbu hpu ⊢
  generalize hbd : nth f.fBlocks.xs q = bl at hpf hblR hblB hbu hpu ⊢
  refine so_sub (L' := [mp EB 3 (mi q) (usU f).length (setP (I q)), bagX (usU f).length f.fBlocks.xs.length mi I q, mp EB 3 mm 0 (fun _ => none), var 31 b7 bl, own 3 A o.length c o, var 3 b4 (m : Int), var 52 b3 (⟨Si, So⟩ : LiveSets), own 58 Si.A Si.xs.length Si.c Si.xs, own 58 So.A So.xs.length So.c So.xs, bagM (usU f).length f.fBlocks.xs.length mo O, var 38 b1 f]) ?_ ?_
  · exact (PSub.take (L' := [bagM (usU f).length f.fBlocks.xs.length mi I, mp EB 3 mm 0 (fun _ => none), var 31 b7 bl, own 3 A o.length c o, var 3 b4 (m : Int), var 52 b3 (⟨Si, So⟩ : LiveSets), own 58 Si.A Si.xs.length Si.c Si.xs, own 58 So.A So.xs.length So.c So.xs, bagM (usU f).length f.fBlocks.xs.length mo O, var 38 b1 f]) [7, 0, 0, 0, 0, 0, 0, 0, 0, 0] rfl).trans (PSub.bagMout hqn)
  refine so_freeze (mi q) ?_
  intro es clock
  refine s_rangeR rfl ?_
  intro cnt r hcnt
  (repeat' (first | refine s_nil ?_ | (refine k_C ?_; refine s_block ?_) | (refine k_E ?_; refine e_seq ?_)))
  refine s_loop (σ := (Int → Bool) × Nat × Nat) (fun s => [(1, .pointer (some ⟨b1, 0, none⟩)), (3, .pointer (some ⟨b3, 0, none⟩)), (4, .pointer (some ⟨b4, 0, none⟩)), (6, .int .i64 (nth o i)), (7, .pointer (some ⟨b7, 0, none⟩)), (16, .slice A o.length c), (17, .int .i64 o.length), (18, .int .i64 (i : Nat)), (8, .map (some mm)), (33, .pointer (some ⟨r, 0, none⟩))])
    (fun s => [itr Try.prog 3 4 (some (mi q)) r es clock s.1 s.2.1, mp EB 3 mm s.2.2 (setP (goneP (I q) s.1)), mpz EB 3 (mi q) (usU f).length (setP (I q)) es clock, bagX (usU f).length f.fBlocks.xs.length mi I q, var 31 b7 bl, own 3 A o.length c o, var 3 b4 (m : Int), var 52 b3 (⟨Si, So⟩ : LiveSets), own 58 Si.A Si.xs.length Si.c Si.xs, own 58 So.A So.xs.length So.c So.xs, bagM (usU f).length f.fBlocks.xs.length mo O, var 38 b1 f]) (fun s => s.2.2 + s.2.1 ≤ (usU f).length) (fun s => s.2.1) ((fun k => (setP (I q) k).isSome), cnt, 0) (by repeat (first | exact trivial | refine ⟨rfl, ?_⟩)) (by simpa using hcnt) ?_ ?_
  · simp only [← goneP_start]
    exact PSub.take [0, 2, 0, 0, 0, 0, 0, 0, 0, 0, 0, 0] rfl
  rintro g ⟨todo, c1, n1⟩ hJ
  dsimp only at hJ
  (repeat' (first | (refine k_C ?_; first | refine s_seq ?_ | refine s_region ?_)))
  refine s_nextR U_3 rfl (fun hfin => ?_) (fun k x cnt' hk hg ht hF hlt => ?_)
  rotate_left
  · haveI : RdD (okOf w0 f0) w0 k := ⟨hk⟩
    dsimp only at hlt ⊢
    (repeat' (first | refine s_nil ?_ | (refine k_C ?_; first | refine s_seq ?_ | refine s_region ?_ | refine s_skip ?_ | refine s_block ?_ | refine s_ift rfl ?_) | (refine k_E ?_; refine e_seq ?_) | refine s_extract rfl rfl ?_))
    refine s_entryR rfl ?_
    (repeat' (first | refine s_move ?_ | refine s_assign ?_ | refine s_nil ?_ | (refine k_C ?_; refine s_region ?_) | (refine k_E ?_; first | refine e_seq ?_ | refine e_bk ?_) | refine s_putW (yv := true) rfl rfl rfl trivial om ?_ | refine s_extract rfl rfl ?_))
    refine e_lp (fun j => todo j && j != k, cnt', n1 + 1) (by repeat (first | exact trivial | refine ⟨rfl, ?_⟩)) (by show n1 + 1 + cnt' ≤ _; omega) hlt (PSub.eq ?_)
    rw [goneP_step hF]
  dsimp only
  (repeat' (first | refine s_move ?_ | refine s_nil ?_ | (refine k_C ?_; first | refine s_seq ?_ | refine s_region ?_ | refine s_block ?_ | refine s_exit ?_ | refine s_iff rfl ?_) | (refine k_E ?_; first | refine e_seq ?_ | refine e_seq_exit ?_ | refine e_bk_exit ?_ | refine e_lp_exit ?_) | (refine k_load ?_; refine s_ldB rfl rfl ?_) | (refine k_fld ?_; refine s_fldB rfl ?_) | (refine k_call ?_; refine s_len rfl ?_) | refine s_extract rfl rfl ?_))
  rw [goneP_end hfin]
  have hbp := hblB.p
  have hback : ∀ w0 f0, PSub w0 f0 (mp EB 3 (mi q) (usU f).length (setP (I q)) :: bagX (usU f).length f.fBlocks.xs.length mi I q :: [var 31 b7 bl, own 3 A o.length c o, var 3 b4 (m : Int), var 52 b3 (⟨Si, So⟩ : LiveSets), own 58 Si.A Si.xs.length Si.c Si.xs, own 58 So.A So.xs.length So.c So.xs, bagM (usU f).length f.fBlocks.xs.length mo O, var 38 b1 f]) (bagM (usU f).length f.fBlocks.xs.length mi I :: [var 31 b7 bl, own 3 A o.length c o, var 3 b4 (m : Int), var 52 b3 (⟨Si, So⟩ : LiveSets), own 58 Si.A Si.xs.length Si.c Si.xs, own 58 So.A So.xs.length So.c So.xs, bagM (usU f).length f.fBlocks.xs.length mo O, var 38 b1 f]) := fun w0 f0 => by
    have h := PSub.bagMin (w0 := w0) (f0 := f0) (U := (usU f).length) (k := f.fBlocks.xs.length) (mi := mi) (I := I) (b := q) (x := mi q) (p := I q) hqn (L := [var 31 b7 bl, own 3 A o.length c o, var 3 b4 (m : Int), var 52 b3 (⟨Si, So⟩ : LiveSets), own 58 Si.A Si.xs.length Si.c Si.xs, own 58 So.A So.xs.length So.c So.xs, bagM (usU f).length f.fBlocks.xs.length mo O, var 38 b1 f])
    rw [updB_self, updB_self] at h
    exact h
  have hfront : ∀ (X : HP), PSub w0 f0 [X, mpz EB 3 (mi q) (usU f).length (setP (I q)) es clock, bagX (usU f).length f.fBlocks.xs.length mi I q, var 31 b7 bl, own 3 A o.length c o, var 3 b4 (m : Int), var 52 b3 (⟨Si, So⟩ : LiveSets), own 58 Si.A Si.xs.length Si.c Si.xs, own 58 So.A So.xs.length So.c So.xs, bagM (usU f).length f.fBlocks.xs.length mo O, var 38 b1 f] [X, bagM (usU f).length f.fBlocks.xs.length mi I, var 31 b7 bl, own 3 A o.length c o, var 3 b4 (m : Int), var 52 b3 (⟨Si, So⟩ : LiveSets), own 58 Si.A Si.xs.length Si.c Si.xs, own 58 So.A So.xs.length So.c So.xs, bagM (usU f).length f.fBlocks.xs.length mo O, var 38 b1 f] := fun X => PSub.under fun w0 f0 => PSub.thaw.trans (hback w0 f0)
  refine s_loop (σ := Nat) (fun z => [(1, .pointer (some ⟨b1, 0, none⟩)), (3, .pointer (some ⟨b3, 0, none⟩)), (4, .pointer (some ⟨b4, 0, none⟩)), (6, .int .i64 (nth o i)), (7, .pointer (some ⟨b7, 0, none⟩)), (16, .slice A o.length c), (17, .int .i64 o.length), (18, .int .i64 (i : Nat)), (8, .map (some mm)), (41, .slice bl.fParams.A bl.fParams.xs.length bl.fParams.c), (42, .int .i64 bl.fParams.xs.length), (43, .int .i64 (z : Nat))])
    (fun z => [mp EB 3 mm (n1 + z) (setP (addL (I q) (bl.fParams.xs.take z))), bagM (usU f).length f.fBlocks.xs.length mi I, var 31 b7 bl, own 3 A o.length c o, var 3 b4 (m : Int), var 52 b3 (⟨Si, So⟩ : LiveSets), own 58 Si.A Si.xs.length Si.c Si.xs, own 58 So.A So.xs.length So.c So.xs, bagM (usU f).length f.fBlocks.xs.length mo O, var 38 b1 f]) (fun i => i ≤ bl.fParams.xs.length) (fun i => bl.fParams.xs.length - i) 0 (by repeat (first | exact trivial | refine ⟨rfl, ?_⟩)) (Nat.zero_le _) ?_ ?_
  · simp only [List.take_zero, addL_nil, Nat.add_zero]
    exact hfront _
  rintro g i2 hi2
  (repeat' (first | refine s_nil ?_ | (refine k_C ?_; first | refine s_seq ?_ | refine s_region ?_) | (refine k_E ?_; refine e_seq ?_) | (refine k_bin ?_; refine s_lss rfl rfl ?_)))
  (first | (refine k_C ?_; (refine s_ifd rfl ?_ ?_ <;> intro hc <;> try (exfalso; omega))))
  · have hin2 : i2 < bl.fParams.xs.length := by omega
    (repeat' (first | refine s_move ?_ | refine s_assign ?_ | refine s_nil ?_ | (refine k_C ?_; first | refine s_seq ?_ | refine s_region ?_ | refine s_skip ?_ | refine s_block ?_) | (refine k_E ?_; first | refine e_seq ?_ | refine e_bk ?_) | (refine k_load ?_; refine s_ldS rfl rfl om rfl ?_) | (refine k_bin ?_; refine s_add1 rfl rfl om ?_) | (refine k_idx ?_; refine s_idxS rfl rfl om ?_) | refine s_putW (yv := true) rfl rfl rfl trivial om ?_))
    refine e_lp (i2 + 1) (by repeat (first | exact trivial | refine ⟨rfl, ?_⟩)) (by show i2 + 1 ≤ _; omega) (by show _ - _ < _ - _; omega) (PSub.eq ?_)
    rw [setP_put, addL_put, takeN hin2]; rfl
  have hi2E : i2 = bl.fParams.xs.length := by omega
  subst hi2E
  rw [List.take_length]
  (repeat' (first | refine s_move ?_ | (refine k_C ?_; first | refine s_seq ?_ | refine s_region ?_ | refine s_exit ?_) | (refine k_E ?_; first | refine e_seq ?_ | refine e_seq_exit ?_ | refine e_bk_exit ?_ | refine e_lp_exit ?_) | (refine k_load ?_; refine s_ldB rfl rfl ?_)))
  refine s_lenC rfl ?_
  intro ks hk1 hk2
  have hcard := cardU_of (us := usP f) hk1 hk2 (fun k hk => by
    unfold addL at hk
    rw [Bool.or_eq_true, decide_eq_true_eq] at hk
    rcases hk with hk | hk
    · exact List.mem_append_left _ ((hus k).1 hk)
    · exact hpu k hk)
  (repeat' (first | refine s_nil ?_ | (refine k_E ?_; refine e_seq ?_) | (refine k_store ?_; refine s_stW _ rfl rfl ?_) | (refine k_call ?_; refine s_max rfl rfl ?_)))
  have em : (max (m : Int) (ks.length : Int)) = ((max m ks.length : Nat) : Int) := by omega
  rw [em, hcard]
  generalize hm' : max m (cardU (usP f) (addL (I q) bl.fParams.xs)) = m' at hpf ⊢
  refine s_tail (F := ?F18) 7 [0, 1, 2, 3, 4, 5, 6] foI (by kernel_rfl) ?hr18 ?hn18
  case hr18 =>
    change sO _ _ _ _ _ _ (_ :: _ :: _ :: _ :: _ :: _ :: _ :: []) _ _ _
    (repeat' (first | refine s_move ?_ | (refine k_load ?_; first | refine s_ldB rfl rfl ?_ | refine s_ldBW rfl rfl ?_ | refine s_ld rfl om rfl ?_) | (refine k_fld ?_; refine s_fldB rfl ?_) | (refine k_idx ?_; refine s_idxI rfl rfl om om ?_)))
    refine s_func (v1 := []) (v2 := [.pointer _, .pointer _]) rfl rfl ?_
    (repeat' (first | refine s_nil ?_))
    exact e_F
  change sO _ _ _ _ _ _ (_ :: []) _ _ _
  rw [hqd, hSo.2 _ hqn]
  refine so_sub (L' := [pressP b7 b4 bl m', own 3 A o.length c o, var 52 b3 (⟨Si, So⟩ : LiveSets), own 58 Si.A Si.xs.length Si.c Si.xs, own 58 So.A So.xs.length So.c So.xs, bagM (usU f).length f.fBlocks.xs.length mi I, bagM (usU f).length f.fBlocks.xs.length mo O, var 38 b1 f]) ((PSub.take (L' := [var 31 b7 bl, var 3 b4 (m' : Int), own 3 A o.length c o, var 52 b3 (⟨Si, So⟩ : LiveSets), own 58 Si.A Si.xs.length Si.c Si.xs, own 58 So.A So.xs.length So.c So.xs, bagM (usU f).length f.fBlocks.xs.length mi I, bagM (usU f).length f.fBlocks.xs.length mo O, var 38 b1 f]) [2, 3, 2, 2, 2, 2, 1, 1, 1] rfl).trans PSub.mk2) ?_
  refine s_call (L2 := [own 3 A o.length c o, var 52 b3 (⟨Si, So⟩ : LiveSets), own 58 Si.A Si.xs.length Si.c Si.xs, own 58 So.A So.xs.length So.c So.xs, bagM (usU f).length f.fBlocks.xs.length mi I, bagM (usU f).length f.fBlocks.xs.length mo O, var 38 b1 f]) [0] (backF_spec bl hblB (some (mo q)) (usU f).length (O q) (by omega) (fun m => pressP b7 b4 bl m) (pressI (usP f) bl) m' 21 [.pointer (some ⟨b7, 0, none⟩), .pointer (some ⟨b4, 0, none⟩)] (fun ok w => RdD ok w bl) (Lasts.d bl) (fun k q' n' hk hn' => press1_spec (usP f) bl hblB b7 b4 _ k q' n' _ hk (fun j hj => by
      rcases liveB_in hj with h1 | h1
      · exact List.mem_append_left _ ((hus j).2 h1)
      · exact List.mem_append_left _ (hbu j h1)) (by omega))) rfl rfl (fun w1 f1 C => ⟨C.rd hblR, C.bagRd 5 rfl hqn, C.rd hblR⟩) ?_
  rintro r' L' ⟨m2, N2, rfl, hN2, rfl⟩
  (repeat' (first | refine s_move ?_ | refine s_nil ?_ | (refine k_C ?_; refine s_region ?_) | (refine k_E ?_; first | refine e_seq ?_ | refine e_bk ?_) | (refine k_bin ?_; refine s_add1 rfl rfl om ?_)))
  refine e_lp (i + 1, atS (pressI (usP f) bl) bl (O q) m' 0) (by repeat (first | exact trivial | refine ⟨rfl, ?_⟩)) ⟨by show i + 1 ≤ _; omega, hpf.symm⟩ (by show _ - _ < _ - _; omega) ?_
  exact (PSub.take (L' := [pressP b7 b4 bl (atS (pressI (usP f) bl) bl (O q) m' 0), own 3 A o.length c o, var 52 b3 (⟨Si, So⟩ : LiveSets), own 58 Si.A Si.xs.length Si.c Si.xs, own 58 So.A So.xs.length So.c So.xs, bagM (usU f).length f.fBlocks.xs.length mi I, bagM (usU f).length f.fBlocks.xs.length mo O, var 38 b1 f]) [1, 1, 1, 1, 1, 1, 1, 1] rfl).trans (PSub.un2.trans (PSub.take [2, 1, 1, 1, 1, 1, 1, 1] rfl))

def jobsF (f : SsaFunc) (I O : Nat → Int → Bool) (o : List Int) : List (Int × (Int → Bool)) := o.flatMap fun q => jobsB (nth f.fBlocks.xs q.toNat) (I q.toNat) (O q.toNat)
set_option maxHeartbeats 8000000 in
theorem paint15_spec (f : SsaFunc) (hf : OkF f) (most : Int) : Spec Try.prog 9 [.agg (Enc.enc f).toArray, .int .i64 most] [] (fun ok w => RdD ok w f) fun r L' =>
    ((most < 1 ∨ 64 < most) ∧ r = .tuple #[.map none, .int .i64 1] ∧ L' = []) ∨ (1 ≤ most ∧ most ≤ 64 ∧ ∃ I O o, FixQ f I O ∧ OrdF f o ∧
      ((∃ rb N R, r = .tuple #[.map (some rb), .int .i64 0] ∧ PickL most.toNat (jobsF f I O o) (fun _ => none) R ∧ L' = [mp EI 3 rb N R]) ∨ (r = .tuple #[.map none, .int .i64 30] ∧ PickF most.toNat (jobsF f I O o) (fun _ => none) ∧ L' = []))) := by
  refine spec_of Try.func9 rfl rfl fun w0 f0 hR => ?_
  have hn := hf.b
  have hul := hf.u
  (repeat' (first | refine s_move ?_ | refine s_assign ?_ | refine s_nil ?_ | (refine k_C ?_; first | refine s_seq ?_ | refine s_region ?_ | refine s_skip ?_ | refine s_ret ?_ | refine s_ift rfl ?_ | (refine s_ifd rfl ?_ ?_ <;> intro hc <;> try (exfalso; omega))) | (refine k_E ?_; first | refine e_seq ?_ | refine e_seq_ret ?_) | (refine k_load ?_; refine s_ldBW rfl rfl ?_) | (refine k_bin ?_; first | refine s_lss rfl rfl ?_ | refine s_gtr rfl rfl ?_) | (refine k_guard ?_; first | refine s_on rfl rfl ?_ | refine s_off rfl rfl rfl rfl ?_ | (refine s_casesd rfl rfl ?_ ?_ <;> intro hc <;> try (exfalso; omega))) | (refine s_box _ rfl ?_; intro b) | refine s_pick rfl ?_))
  · exact e_done2 rfl rfl rfl [] (PSub.take [] rfl) (.inl ⟨.inl (by omega), rfl, rfl⟩)
  · exact e_done2 rfl rfl rfl [] (PSub.take [] rfl) (.inl ⟨.inr (by omega), rfl, rfl⟩)
  obtain ⟨M, rfl⟩ : ∃ M : Nat, most = (M : Int) := ⟨most.toNat, by omega⟩
  rw [Int.toNat_natCast]
  have hM : M ≤ 64 := by omega
  have hM1 : 1 ≤ M := by omega
  obtain ⟨b2, rfl⟩ : ∃ q, q = b := ⟨_, rfl⟩
  refine s_call0 (of15_spec f hf) rfl (fun w1 H => H.rdD (by infer_instance)) ?_
  rintro r L' ⟨Si, So, mi, mo, I, O, rfl, hQ, hSi, hSo, rfl⟩
  (repeat' (first | refine s_move ?_ | refine s_nil ?_ | (refine k_C ?_; first | refine s_seq ?_ | refine s_region ?_) | (refine k_E ?_; refine e_seq ?_) | (refine k_store ?_; refine s_stW _ rfl rfl ?_) | (refine s_alloc ?_; intro b) | (refine s_mkmapI ?_; intro b)))
  rename_i b6
  obtain ⟨rb, rfl⟩ : ∃ q, q = b := ⟨_, rfl⟩
  refine s_bld (⟨⟨some rb⟩, (M : Int)⟩ : LivePainter) (by kernel_rfl) ?_
  (repeat' (first | refine s_assign ?_ | refine s_nil ?_ | (refine k_C ?_; first | refine s_seq ?_ | refine s_region ?_) | (refine k_E ?_; refine e_seq ?_) | (refine k_load ?_; refine s_ldBW rfl rfl ?_) | (refine s_box _ rfl ?_; intro b)))
  obtain ⟨bp, rfl⟩ : ∃ q, q = b := ⟨_, rfl⟩
  refine s_call0 (new15_spec f hf) rfl (fun w1 H => H.rdD (by infer_instance)) ?_
  rintro r L' ⟨gb, g, rfl, hG, rfl⟩
  refine so_sub (L' := [var 78 gb g, own 23 g.fOuts.A g.fOuts.xs.length g.fOuts.c g.fOuts.xs, rws 3 g.fOuts.xs] ++ [var 67 bp (⟨⟨some rb⟩, (M : Int)⟩ : LivePainter), mp EI 3 rb 0 (fun _ => none), var 52 b6 (⟨Si, So⟩ : LiveSets), own 58 Si.A Si.xs.length Si.c Si.xs, own 58 So.A So.xs.length So.c So.xs, bagM (usU f).length f.fBlocks.xs.length mi I, bagM (usU f).length f.fBlocks.xs.length mo O, var 38 b2 f]) (PSub.take [0, 0, 0, 3, 3, 3, 3, 3, 3, 3, 3] rfl) ?_
  refine s_call0 (ordF_spec f hf gb g hG) rfl (fun w1 H => graph_rd hf hG H) ?_
  rintro r L' ⟨A, c, o, rfl, ho, rfl⟩
  obtain ⟨hov, hol⟩ := ho.at
  (repeat' (first | refine s_move ?_ | refine s_nil ?_ | (refine k_C ?_; refine s_block ?_) | (refine k_E ?_; refine e_seq ?_) | (refine k_call ?_; refine s_len rfl ?_)))
  refine s_loop (σ := Nat × (Int → Option Int) × Nat) (fun z => [(2, .pointer (some ⟨b2, 0, none⟩)), (6, .pointer (some ⟨b6, 0, none⟩)), (7, .pointer (some ⟨bp, 0, none⟩)), (24, .slice A o.length c), (25, .int .i64 o.length), (26, .int .i64 (z.1 : Nat))])
    (fun z => [own 3 A o.length c o, var 67 bp (⟨⟨some rb⟩, (M : Int)⟩ : LivePainter), mp EI 3 rb z.2.2 z.2.1, var 52 b6 (⟨Si, So⟩ : LiveSets), own 58 Si.A Si.xs.length Si.c Si.xs, own 58 So.A So.xs.length So.c So.xs, bagM (usU f).length f.fBlocks.xs.length mi I, bagM (usU f).length f.fBlocks.xs.length mo O, var 38 b2 f])
    (fun z => z.1 ≤ o.length ∧ RegsOk M z.2.1 ∧ z.2.2 ≤ 2000 * z.1 ∧ PickL M (jobsF f I O (o.take z.1)) (fun _ => none) z.2.1) (fun z => o.length - z.1) (0, (fun _ => none), 0) (by repeat (first | exact trivial | refine ⟨rfl, ?_⟩)) ⟨Nat.zero_le _, fun _ _ h => (by cases h), Nat.le_refl _, .nil⟩ (PSub.take [0, 3, 3, 3, 3, 3, 3, 3, 3] rfl) ?_
  rintro g2 ⟨i, R, N⟩ ⟨hi, hRg, hN, hP⟩
  dsimp only at hi hRg hN hP ⊢
  (repeat' (first | refine s_nil ?_ | (refine k_C ?_; first | refine s_seq ?_ | refine s_region ?_) | (refine k_E ?_; refine e_seq ?_) | (refine k_bin ?_; refine s_lss rfl rfl ?_)))
  (first | (refine k_C ?_; (refine s_ifd rfl ?_ ?_ <;> intro hc <;> try (exfalso; omega))))
  rotate_left
  · have hiE : i = o.length := by omega
    subst hiE
    rw [List.take_length] at hP
    (repeat' (first | refine s_move ?_ | refine s_assign ?_ | refine s_nil ?_ | (refine k_C ?_; first | refine s_seq ?_ | refine s_region ?_ | refine s_exit ?_ | refine s_ret ?_) | (refine k_E ?_; first | refine e_seq ?_ | refine e_seq_exit ?_ | refine e_bk_exit ?_ | refine e_lp_exit ?_) | (refine k_load ?_; refine s_ldB rfl rfl ?_) | (refine k_fld ?_; refine s_fldB rfl ?_) | refine s_nilck rfl ?_))
    exact e_done2 rfl rfl rfl [mp EI 3 rb N R] (PSub.take [2] rfl) (.inr ⟨by omega, by omega, I, O, o, hQ, ho, .inl ⟨rb, N, R, rfl, hP, rfl⟩⟩)
  have hin : i < o.length := by omega
  obtain ⟨hq0, hq1⟩ := hov _ (nth_mem hin)
  have hSl := hSi.1
  have hSl2 := hSo.1
  have hqn : (nth o i).toNat < f.fBlocks.xs.length := by omega
  (repeat' (first | refine s_assign ?_ | refine s_nil ?_ | (refine k_C ?_; first | refine s_seq ?_ | refine s_region ?_ | refine s_skip ?_ | refine s_block ?_) | (refine k_E ?_; refine e_seq ?_) | (refine k_load ?_; refine s_ld rfl om rfl ?_) | (refine k_idx ?_; refine s_idx rfl rfl om ?_)))
  refine s_tail (F := ?F8) 8 [0, 1, 2, 3, 4, 5, 6, 7] foI (by kernel_rfl) ?hr8 ?hn8
  case hr8 =>
    change sO _ _ _ _ _ _ (_ :: _ :: _ :: _ :: _ :: _ :: _ :: _ :: []) _ _ _
    (repeat' (first | refine s_move ?_ | refine s_nil ?_ | (refine k_load ?_; first | refine s_ldB rfl rfl ?_ | refine s_ldBW rfl rfl ?_ | refine s_ldSA rfl rfl om rfl ?_) | (refine k_fld ?_; refine s_fldB rfl ?_) | (refine k_idx ?_; refine s_idxSI rfl rfl om om ?_)))
    exact e_F
  change sO _ _ _ _ _ _ (_ :: _ :: []) _ _ _
  have hjobs : jobsF f I O (o.take (i + 1)) = jobsF f I O (o.take i) ++ jobsB (nth f.fBlocks.xs (nth o i).toNat) (I (nth o i).toNat) (O (nth o i).toNat) := by rw [← takeN hin]; unfold jobsF; rw [List.flatMap_append]; simp
  have hall : jobsF f I O o = jobsF f I O (o.take (i + 1)) ++ jobsF f I O (o.drop (i + 1)) := by unfold jobsF; rw [← List.flatMap_append, List.take_append_drop]
  obtain ⟨q, hqi⟩ : ∃ q : Nat, nth o i = (q : Int) := ⟨(nth o i).toNat, by omega⟩
  rw [hqi] at hqn hjobs ⊢
  rw [Int.toNat_natCast] at hqn hjobs ⊢
  refine s_call (L2 := [own 3 A o.length c o, var 52 b6 (⟨Si, So⟩ : LiveSets), own 58 Si.A Si.xs.length Si.c Si.xs, own 58 So.A So.xs.length So.c So.xs, bagM (usU f).length f.fBlocks.xs.length mi I, bagM (usU f).length f.fBlocks.xs.length mo O, var 38 b2 f]) [1, 1] (block_spec f hf Si So mi mo I O ⟨hSi, hSo⟩ hQ.inv q hqn (nth f.fBlocks.xs q) rfl bp rb N M R hM (by omega) hRg) rfl rfl (fun w1 f1 C => ⟨⟨C.ownI Si.A (fun _ _ => trivial), C.ownI So.A (fun _ _ => trivial), fun b hb => ⟨C.bagRd 4 rfl hb, C.bagRd 5 rfl hb⟩⟩, C.rd (by infer_instance)⟩) ?_
  rintro r' L' ⟨t, R', N', rfl, hN', hRg', rfl, hres⟩
  rcases hres with ⟨rfl, hpl⟩ | ⟨rfl, pre, v, p, post, R1, h1, h2, h3⟩
  · (repeat' (first | refine s_move ?_ | refine s_nil ?_ | (refine k_C ?_; first | refine s_region ?_ | refine s_skip ?_ | refine s_iff rfl ?_) | (refine k_E ?_; first | refine e_seq ?_ | refine e_bk ?_) | (refine k_bin ?_; refine s_add1 rfl rfl om ?_) | refine s_not rfl ?_))
    exact e_lp (i + 1, R', N') (by repeat (first | exact trivial | refine ⟨rfl, ?_⟩)) ⟨by show i + 1 ≤ _; omega, hRg', by show N' ≤ 2000 * (i + 1); omega, by show PickL M (jobsF f I O (o.take (i + 1))) _ R'; rw [hjobs]; exact hP.app hpl⟩ (by show _ - _ < _ - _; omega) (PSub.take [2, 0, 0, 0, 0, 0, 0, 0, 0] rfl)
  · (repeat' (first | refine s_assign ?_ | refine s_nil ?_ | (refine k_C ?_; first | refine s_seq ?_ | refine s_region ?_ | refine s_ret ?_ | refine s_ift rfl ?_) | (refine k_E ?_; first | refine e_seq ?_ | refine e_seq_ret ?_ | refine e_bk_ret ?_ | refine e_lp_ret ?_) | refine s_not rfl ?_))
    refine e_done2 rfl rfl rfl [] (PSub.take [] rfl) (.inr ⟨by omega, by omega, I, O, o, hQ, ho, .inr ⟨rfl, ⟨jobsF f I O (o.take i) ++ pre, v, p, post ++ jobsF f I O (o.drop (i + 1)), R1, ?_, hP.app h2, h3⟩, rfl⟩⟩)
    rw [hall, hjobs, h1]
    simp
end Go.Proofs.Ytfplmdjlgjgbgaa
