/- Layer 11, of a function: Order. -/
import Derived.Test.YtfplmdjlgjgbgaaV8
namespace Go.Proofs.Ytfplmdjlgjgbgaa
set_option linter.unusedVariables false
set_option linter.unusedSimpArgs false
open Go Go.RowKit

def T0 (n : Nat) (es : Nat → List Int) (fin : Vs) : Prop := ∃ s1, Vl n es (es 0) ((List.replicate n false).set 0 true, []) s1 ∧ fin = (s1.1, s1.2 ++ [0])
/-- Under way. -/
structure Ord8 (n : Nat) (es : Nat → List Int) (st : List Int) (seen : List Bool) (next out : List Int) (rem : List Nat) : Prop where
  go : ∀ F, Rs n es next st (seen, out) F → T0 n es F
  nodup : st.Nodup
  mem : ∀ b ∈ st, 0 ≤ b ∧ b.toNat < n ∧ nth seen b.toNat = true
  zero : ∀ c, c < n → nth seen c = false → nth next c = 0
  rng : ∀ c, c < n → 0 ≤ nth next c ∧ (nth next c).toNat + rem.getD c 0 = (es c).length
  sl : seen.length = n
  nl : next.length = n
  rl : rem.length = n
  cnt : out.length + st.length = seen.count true
/-- One edge more of the block on top; where it goes was seen. -/
theorem Ord8.skip {n : Nat} {es : Nat → List Int} {b : Int} {rest : List Int} {seen : List Bool} {next out : List Int} {rem : List Nat} (h : Ord8 n es (b :: rest) seen next out rem) (hlt : (nth next b.toNat).toNat < (es b.toNat).length)
    (hs : nth seen (nth (es b.toNat) (nth next b.toNat).toNat).toNat = true) : Ord8 n es (b :: rest) seen (next.set b.toNat (nth next b.toNat + 1)) out (rem.set b.toNat (rem.getD b.toNat 0 - 1)) ∧ (rem.set b.toNat (rem.getD b.toNat 0 - 1)).sum + 1 = rem.sum := by
  obtain ⟨m1, m2, m3⟩ := h.mem b (by simp)
  obtain ⟨r1, r2⟩ := h.rng _ m2
  have hnd := (List.nodup_cons.1 h.nodup).1
  have hne : ∀ c ∈ rest, c.toNat ≠ b.toNat := fun c hc e => by
    have := (h.mem c (by simp [hc])).1
    have e2 : c = b := by omega
    exact hnd (e2 ▸ hc)
  refine ⟨⟨fun F hF => h.go F ?_, h.nodup, h.mem, fun c hc hcs => ?_, fun c hc => ?_, h.sl, by rw [List.length_set]; exact h.nl, by rw [List.length_set]; exact h.rl, h.cnt⟩, ?_⟩
  · obtain ⟨s1, h1, h2⟩ := hF
    refine ⟨s1, ?_, h2.congr fun c hc => ?_⟩
    · rw [nth_set (by rw [h.nl]; exact m2), if_pos rfl] at h1
      have e : (nth next b.toNat + 1).toNat = (nth next b.toNat).toNat + 1 := by omega
      rw [e] at h1
      rw [List.drop_eq_getElem_cons hlt]
      refine .skip (fun hh => ?_) h1
      have := hh.2
      rw [← nth_get hlt, hs] at this; cases this
    · rw [nth_set (by rw [h.nl]; exact m2), if_neg (hne c hc)]
  · rw [nth_set (by rw [h.nl]; exact m2)]
    by_cases e : c = b.toNat
    · subst e; rw [m3] at hcs; cases hcs
    · rw [if_neg e]; exact h.zero c hc hcs
  · rw [nth_set (by rw [h.nl]; exact m2)]
    by_cases e : c = b.toNat
    · subst e
      rw [if_pos rfl]
      have : (rem.set b.toNat (rem.getD b.toNat 0 - 1)).getD b.toNat 0 = rem.getD b.toNat 0 - 1 := by simp [h.rl, m2]
      rw [this]; omega
    · rw [if_neg e]
      have : (rem.set b.toNat (rem.getD b.toNat 0 - 1)).getD c 0 = rem.getD c 0 := by
        simp [List.getD_eq_getElem?_getD, List.getElem?_set_ne (Ne.symm e)]
      rw [this]; exact h.rng c hc
  · have := sum_set (l := rem) (i := b.toNat) (x := rem.getD b.toNat 0 - 1) (by rw [h.rl]; exact m2)
    omega
/-- .. where it goes is new. -/
theorem Ord8.push {n : Nat} {es : Nat → List Int} {b : Int} {rest : List Int} {seen : List Bool} {next out : List Int} {rem : List Nat} (hes : ∀ c, ∀ t ∈ es c, vld n t = true) (h : Ord8 n es (b :: rest) seen next out rem) (hlt : (nth next b.toNat).toNat < (es b.toNat).length)
    (hs : nth seen (nth (es b.toNat) (nth next b.toNat).toNat).toNat = false) : Ord8 n es (nth (es b.toNat) (nth next b.toNat).toNat :: b :: rest) (seen.set (nth (es b.toNat) (nth next b.toNat).toNat).toNat true) (next.set b.toNat (nth next b.toNat + 1)) out (rem.set b.toNat (rem.getD b.toNat 0 - 1)) ∧ (rem.set b.toNat (rem.getD b.toNat 0 - 1)).sum + 1 = rem.sum := by
  obtain ⟨m1, m2, m3⟩ := h.mem b (by simp)
  obtain ⟨r1, r2⟩ := h.rng _ m2
  have hv := hes b.toNat _ (nth_mem hlt)
  generalize ht : nth (es b.toNat) (nth next b.toNat).toNat = t at hs hv ⊢
  have hv2 : 0 ≤ t ∧ t < n := by unfold vld at hv; exact of_decide_eq_true hv
  have htn : t.toNat < n := by omega
  have hnd := (List.nodup_cons.1 h.nodup).1
  have hne : ∀ c ∈ rest, c.toNat ≠ b.toNat := fun c hc e => by
    have := (h.mem c (by simp [hc])).1
    have e2 : c = b := by omega
    exact hnd (e2 ▸ hc)
  have htb : t.toNat ≠ b.toNat := fun e => by rw [e, m3] at hs; cases hs
  have hsl := h.sl
  refine ⟨⟨fun F hF => h.go F ?_, ?_, fun c hc => ?_, fun c hc hcs => ?_, fun c hc => ?_, by rw [List.length_set]; exact h.sl, by rw [List.length_set]; exact h.nl, by rw [List.length_set]; exact h.rl, ?_⟩, ?_⟩
  · obtain ⟨s1, h1, s2, h2, h3⟩ := hF
    rw [nth_set (by rw [h.nl]; exact m2), if_neg htb, h.zero _ htn hs] at h1
    rw [nth_set (by rw [h.nl]; exact m2), if_pos rfl] at h2
    have e : (nth next b.toNat + 1).toNat = (nth next b.toNat).toNat + 1 := by omega
    rw [e] at h2
    refine ⟨s2, ?_, h3.congr fun c hc => ?_⟩
    · rw [List.drop_eq_getElem_cons hlt, ← nth_get hlt, ht]
      exact .go hv hs h1 h2
    · rw [nth_set (by rw [h.nl]; exact m2), if_neg (hne c hc)]
  · refine List.nodup_cons.2 ⟨fun hm => ?_, h.nodup⟩
    have := (h.mem t hm).2.2
    rw [hs] at this; cases this
  · rw [nth_set (by rw [hsl]; exact htn)]
    rcases List.mem_cons.1 hc with rfl | hc
    · exact ⟨hv2.1, htn, by rw [if_pos rfl]⟩
    · obtain ⟨q1, q2, q3⟩ := h.mem c hc
      refine ⟨q1, q2, ?_⟩
      split
      · rfl
      · exact q3
  · rw [nth_set (by rw [hsl]; exact htn)] at hcs
    rw [nth_set (by rw [h.nl]; exact m2)]
    split at hcs
    · cases hcs
    · by_cases e : c = b.toNat
      · subst e; rw [m3] at hcs; cases hcs
      · rw [if_neg e]; exact h.zero c hc hcs
  · rw [nth_set (by rw [h.nl]; exact m2)]
    by_cases e : c = b.toNat
    · subst e
      rw [if_pos rfl]
      have : (rem.set b.toNat (rem.getD b.toNat 0 - 1)).getD b.toNat 0 = rem.getD b.toNat 0 - 1 := by simp [h.rl, m2]
      rw [this]; omega
    · rw [if_neg e]
      have : (rem.set b.toNat (rem.getD b.toNat 0 - 1)).getD c 0 = rem.getD c 0 := by
        simp [List.getD_eq_getElem?_getD, List.getElem?_set_ne (Ne.symm e)]
      rw [this]; exact h.rng c hc
  · rw [count_true_set (by rw [hsl]; exact htn) hs, ← h.cnt]; simp; omega
  · have := sum_set (l := rem) (i := b.toNat) (x := rem.getD b.toNat 0 - 1) (by rw [h.rl]; exact m2)
    omega
/-- All its edges were gone. -/
theorem Ord8.pop {n : Nat} {es : Nat → List Int} {b : Int} {rest : List Int} {seen : List Bool} {next out : List Int} {rem : List Nat} (h : Ord8 n es (b :: rest) seen next out rem) (hge : (es b.toNat).length ≤ (nth next b.toNat).toNat) : Ord8 n es rest seen next (out ++ [b]) rem := by
  refine ⟨fun F hF => h.go F ⟨(seen, out), ?_, hF⟩, (List.nodup_cons.1 h.nodup).2, fun c hc => h.mem c (by simp [hc]), h.zero, h.rng, h.sl, h.nl, h.rl, ?_⟩
  · rw [List.drop_eq_nil_of_le hge]; exact .nil _
  · rw [← h.cnt]; simp; omega
theorem Ord8.start {n : Nat} {es : Nat → List Int} (hn : 0 < n) : Ord8 n es [0] ((List.replicate n false).set 0 true) (List.replicate n 0) [] ((List.range n).map fun c => (es c).length) := by
  have h0 : ∀ c, nth (List.replicate n (0 : Int)) c = 0 := fun c => nth_rep (α := Int)
  refine ⟨fun F hF => ?_, by simp, fun b hb => ?_, fun c _ _ => h0 c, fun c hc => ?_, by simp, by simp, by simp, ?_⟩
  · obtain ⟨s1, h1, h2⟩ := hF
    rw [show (0 : Int).toNat = 0 from rfl, h0] at h1
    exact ⟨s1, h1, h2⟩
  · simp at hb; subst hb
    refine ⟨by omega, by simpa using hn, ?_⟩
    rw [show (0 : Int).toNat = 0 from rfl, nth_set (by simpa using hn), if_pos rfl]
  · rw [h0]; simp [hc]
  · rw [count_true_set (l := List.replicate n false) (i := 0) (by simpa using hn) (nth_rep (α := Bool))]
    simp [List.count_replicate]
theorem outsOf_vld {ways : List (List Int)} (c : Nat) : ∀ t ∈ outsOf ways c, vld ways.length t = true := fun t ht => (List.mem_filter.1 ht).2

theorem eq_nth {α : Type} [Enc α] {a b : List α} (hl : a.length = b.length) (h : ∀ q, q < a.length → nth a q = nth b q) : a = b := by
  apply List.ext_getElem hl
  intro q h1 h2
  have := h q h1
  rwa [nth_get h1, nth_get h2] at this
theorem nth_rev {α : Type} [Enc α] {a : List α} {q : Nat} (h : q < a.length) : nth a.reverse q = nth a (a.length - 1 - q) := by
  rw [nth_get (by simpa using h), nth_get (by omega), List.getElem_reverse]
structure OrdSt where
  Aw : Option Addr
  cw : Nat
  lw : Nat
  st : List Int
  seen : List Bool
  next : List Int
  Ao : Option Addr
  co : Nat
  lo : Nat
  out : List Int
  rem : List Nat

theorem Vl.valid {n : Nat} {es : Nat → List Int} {l : List Int} {st st' : Vs} (h : Vl n es l st st') (h0 : ∀ b ∈ st.2, vld n b = true) : ∀ b ∈ st'.2, vld n b = true := by
  induction h with
  | nil _ => exact h0
  | skip _ _ ih => exact ih h0
  | go hv _ _ _ ih1 ih2 =>
    refine ih2 fun b hb => ?_
    rcases List.mem_append.1 hb with hb | hb
    · exact ih1 h0 b hb
    · rw [List.mem_singleton] at hb; subst hb; exact hv
theorem T0.valid {n : Nat} {es : Nat → List Int} {fin : Vs} (hn : 0 < n) (h : T0 n es fin) : ∀ b ∈ fin.2, 0 ≤ b ∧ b < n := by
  obtain ⟨s1, h1, rfl⟩ := h
  intro b hb
  have : vld n b = true := by
    rcases List.mem_append.1 hb with hb | hb
    · exact h1.valid (fun _ h => by cases h) b hb
    · rw [List.mem_singleton] at hb; subst hb; unfold vld; exact decide_eq_true (by omega)
  unfold vld at this
  exact of_decide_eq_true this
theorem len15_spec (gb : Nat) (g : FlowGraph) : Spec Try.prog 26 [.pointer (some ⟨gb, 0, none⟩)] [] (fun ok w => RdB ok w gb g) fun v L' => v = .int .i64 (g.fOuts.xs.length : Nat) ∧ L' = [] := by
  refine spec_of Try.func26 rfl rfl fun w0 f0 hB => ?_
  (repeat' (first | refine s_move ?_ | refine s_assign ?_ | refine s_nil ?_ | (refine k_C ?_; first | refine s_seq ?_ | refine s_region ?_ | refine s_skip ?_ | refine s_ret ?_ | refine s_iff rfl ?_) | (refine k_E ?_; refine e_seq ?_) | (refine k_load ?_; refine s_ldRB rfl rfl ?_) | (refine k_bin ?_; refine s_pnil rfl rfl ?_) | (refine k_fld ?_; refine s_fldB rfl ?_) | (refine k_call ?_; refine s_len rfl ?_) | refine s_nilck rfl ?_))
  exact e_done rfl rfl _ (PSub.take [] rfl) ⟨rfl, rfl⟩
set_option maxHeartbeats 4000000 in
theorem order15_spec {gb n : Nat} {ways : List (List Int)} {g : FlowGraph} (hn : n ≤ 1000) (hw : ways.length = n) (hwl : ∀ l ∈ ways, l.length ≤ 1000) (hgl : g.fOuts.xs.length = n) (hrow : ∀ c, c < n → (nth g.fOuts.xs c).xs = outsOf ways c) :
    Spec Try.prog 18 [.pointer (some ⟨gb, 0, none⟩)] [] (fun ok w => RdB ok w gb g ∧ RdD ok w g.fOuts) fun v L' => (n = 0 ∧ v = .slice none 0 0 ∧ L' = []) ∨ (0 < n ∧ ∃ A l c fin, v = .slice A l c ∧ T0 n (outsOf ways) fin ∧ fin.2.length ≤ n ∧ l = fin.2.length ∧ L' = [own 3 A l c fin.2.reverse]) := by
  refine spec_of Try.func18 rfl rfl fun w0 f0 ⟨hB, hO⟩ => ?_
  (repeat' (first | refine s_move ?_ | refine s_assign ?_ | refine s_nil ?_ | (refine k_C ?_; first | refine s_seq ?_ | refine s_region ?_) | (refine k_E ?_; refine e_seq ?_)))
  refine s_call0 (len15_spec gb g) rfl (fun w1 H => ⟨hB.h.loc H.ok0⟩) ?_
  rintro v L' ⟨rfl, rfl⟩
  rw [hgl]
  (repeat' (first | refine s_move ?_ | refine s_assign ?_ | refine s_nil ?_ | (refine k_C ?_; first | refine s_seq ?_ | refine s_region ?_ | refine s_skip ?_ | refine s_block ?_ | refine s_ret ?_ | (refine s_ifd rfl ?_ ?_ <;> intro hc <;> try (exfalso; omega))) | (refine k_E ?_; first | refine e_seq ?_ | refine e_seq_ret ?_) | (refine k_bin ?_; refine s_eql rfl rfl ?_) | (refine k_idx ?_; refine s_idx rfl rfl om ?_) | (refine k_store ?_; refine s_st _ rfl rfl om ?_) | (refine s_make rfl rfl om ?_; intro b) | (refine s_lit [_] rfl (by decide) rfl ?_; intro b)))
  · exact e_done rfl rfl _ (PSub.take [] rfl) (.inl ⟨by omega, rfl, rfl⟩)
  rename_i b4 b5
  obtain ⟨b6, rfl⟩ : ∃ q, q = b := ⟨_, rfl⟩
  have hlen : ∀ c, c < n → (nth g.fOuts.xs c).xs.length ≤ 1000 := fun c hc => by
    rw [hrow c hc]
    refine Nat.le_trans (List.length_filter_le _ _) ?_
    unfold waysAt
    cases h : ways[c]? with
    | none => simp
    | some l => exact hwl l (List.mem_of_getElem? h)
  refine s_loop (σ := OrdSt) (fun s => [(0, .pointer (some ⟨gb, 0, none⟩)), (4, .slice (some ⟨b4, 0, none⟩) n n), (5, .slice (some ⟨b5, 0, none⟩) n n), (6, .slice s.Aw s.lw s.cw), (7, .slice s.Ao s.lo s.co)])
    (fun s => [own 3 s.Aw s.lw s.cw s.st.reverse, own 3 (some ⟨b5, 0, none⟩) n n s.next, own 4 (some ⟨b4, 0, none⟩) n n s.seen, own 3 s.Ao s.lo s.co s.out])
    (fun s => Ord8 n (outsOf ways) s.st s.seen s.next s.out s.rem ∧ s.lw = s.st.length ∧ s.lo = s.out.length) (fun s => 2 * s.rem.sum + s.st.length)
    ⟨some ⟨b6, 0, none⟩, 1, 1, [0], (List.replicate n false).set 0 true, List.replicate n 0, none, 0, 0, [], (List.range n).map fun c => (outsOf ways c).length⟩ (by repeat (first | exact trivial | refine ⟨rfl, ?_⟩)) ⟨Ord8.start (by omega), rfl, rfl⟩
    ((PSub.nilOwn 3).trans (PSub.take [1, 1, 1, 0] rfl)) ?_
  rintro f ⟨Aw, cw, lw, st, seen, next, Ao, co, lo, out, rem⟩ ⟨hO, hlw, hlo⟩
  simp only at hO hlw hlo ⊢
  have hct := hO.cnt
  have hcl := List.count_le_length (a := true) (l := seen)
  rw [hO.sl] at hcl
  rcases st with _ | ⟨tb, rest⟩
  · simp only [List.length_nil] at hlw
    subst hlw
    (repeat' (first | refine s_move ?_ | refine s_assign ?_ | refine s_nil ?_ | (refine k_C ?_; first | refine s_seq ?_ | refine s_region ?_ | refine s_block ?_ | refine s_exit ?_ | refine s_iff rfl ?_) | (refine k_E ?_; first | refine e_seq ?_ | refine e_seq_exit ?_ | refine e_bk_exit ?_ | refine e_lp_exit ?_) | (refine k_bin ?_; first | refine s_sub64 rfl rfl om ?_ | refine s_gtr rfl rfl ?_) | (refine k_call ?_; refine s_len rfl ?_)))
    obtain ⟨s1, hV, hfin⟩ := hO.go (seen, out) rfl
    refine s_loop (σ := Nat × Int × List Int) (fun st => [(7, .slice Ao lo co), (10, .int .i64 (st.1 : Nat)), (11, .int .i64 st.2.1)]) (fun st => [own 3 Ao lo co st.2.2])
      (fun st => st.1 ≤ lo ∧ st.2.1 = (lo : Int) - 1 - st.1 ∧ st.2.2.length = lo ∧ ∀ q, q < lo → nth st.2.2 q = if q < st.1 ∨ lo - 1 - q < st.1 then nth out (lo - 1 - q) else nth out q) (fun st => lo - st.1) (0, (lo : Int) - 1, out) (by repeat (first | exact trivial | refine ⟨rfl, ?_⟩)) ⟨Nat.zero_le _, by simp, hlo.symm, fun q hq => by rw [if_neg (by omega)]⟩ (PSub.take [3] rfl) ?_
    rintro f ⟨i, kk, cur⟩ ⟨hi, hkk, hcl2, hcur⟩
    simp only at hi hkk hcl2 hcur ⊢
    (repeat' (first | refine s_move ?_ | refine s_assign ?_ | refine s_nil ?_ | (refine k_C ?_; first | refine s_seq ?_ | refine s_region ?_ | refine s_skip ?_ | refine s_block ?_ | refine s_exit ?_ | refine s_ret ?_ | (refine s_ifd rfl ?_ ?_ <;> intro hc <;> try (exfalso; omega))) | (refine k_E ?_; first | refine e_seq ?_ | refine e_seq_exit ?_ | refine e_bk_exit ?_ | refine e_lp_exit ?_) | (refine k_bin ?_; refine s_lss rfl rfl ?_)))
    · refine s_swap (F1 := ?F1) (F := ?F) 12 [2, 3] [0, 1, 4, 5, 6, 7, 8, 9, 10, 11] foI (by kernel_rfl) ?h0 ?h1 ?h2
      case h0 =>
        intro w1
        (repeat' (first | refine s_move ?_ | refine s_nil ?_))
        exact e_F
      case h1 =>
        (repeat' (first | refine s_move ?_ | refine s_nil ?_ | (refine k_load ?_; refine s_ld rfl om rfl ?_) | (refine k_idx ?_; first | refine s_idx rfl rfl om ?_ | refine s_idxI rfl rfl om om ?_)))
        exact e_F
      case h2 =>
        (repeat' (first | refine s_move ?_ | refine s_assign ?_ | refine s_nil ?_ | (refine k_C ?_; refine s_region ?_) | (refine k_E ?_; first | refine e_seq ?_ | refine e_bk ?_) | (refine k_bin ?_; first | refine s_add1 rfl rfl om ?_ | refine s_sub64 rfl rfl om ?_) | (refine k_idx ?_; first | refine s_idx rfl rfl om ?_ | refine s_idxI rfl rfl om om ?_) | (refine k_store ?_; refine s_st _ rfl rfl om ?_)))
        have hkn : kk.toNat = lo - 1 - i := by omega
        refine e_lp (i + 1, kk - 1, (cur.set i (nth cur kk.toNat)).set kk.toNat (nth cur i)) (by repeat (first | exact trivial | refine ⟨rfl, ?_⟩)) ⟨by omega, by simp only; omega, by simp; omega, fun q hq => ?_⟩ (by show _ - _ < _ - _; omega) PSub.refl
        show nth ((cur.set i (nth cur kk.toNat)).set kk.toNat (nth cur i)) q = if q < i + 1 ∨ lo - 1 - q < i + 1 then nth out (lo - 1 - q) else nth out q
        rw [nth_set (by rw [List.length_set]; omega), nth_set (by omega), hkn, hcur i (by omega), hcur (lo - 1 - i) (by omega), hcur q hq]
        rw [if_neg (show ¬ (i < i ∨ lo - 1 - i < i) by omega), if_neg (show ¬ (lo - 1 - i < i ∨ lo - 1 - (lo - 1 - i) < i) by omega)]
        by_cases e1 : q = lo - 1 - i
        · rw [if_pos e1, if_pos (by omega)]; congr 1; omega
        · rw [if_neg e1]
          by_cases e2 : q = i
          · rw [if_pos e2, if_pos (by omega)]; congr 1; omega
          · rw [if_neg e2]
            by_cases e3 : q < i ∨ lo - 1 - q < i
            · rw [if_pos e3, if_pos (by omega)]
            · rw [if_neg e3, if_neg (by omega)]
    · have e1 : cur = out.reverse := by
        refine eq_nth (by rw [List.length_reverse]; omega) fun q hq => ?_
        rw [hcur q (by omega), nth_rev (by omega), ← hlo]
        split
        · rfl
        · congr 1; omega
      refine e_done rfl rfl _ PSub.refl (.inr ⟨by omega, Ao, lo, co, (seen, out), rfl, ⟨s1, hV, hfin⟩, by show out.length ≤ n; simp only [List.length_nil] at hct; omega, hlo, by rw [e1]⟩)
  · simp only [List.length_cons] at hlw hct
    have htop : nth (tb :: rest).reverse (((lw : Nat) : Int) - 1).toNat = tb := by
      have e : (((lw : Nat) : Int) - 1).toNat = rest.reverse.length := by rw [List.length_reverse]; omega
      rw [e, List.reverse_cons]
      exact nth_of (by rw [List.getElem?_append_right (Nat.le_refl _), Nat.sub_self]; rfl)
    (repeat' (first | refine s_move ?_ | refine s_assign ?_ | refine s_nil ?_ | (refine k_C ?_; first | refine s_seq ?_ | refine s_region ?_ | refine s_stillP foI rfl (by kernel_rfl) ?_ | refine s_skip ?_ | refine s_block ?_ | (refine s_ifd rfl ?_ ?_ <;> intro hc <;> try (exfalso; omega))) | (refine k_E ?_; refine e_seq ?_) | (refine k_load ?_; refine s_ld rfl om rfl ?_) | (refine k_bin ?_; first | refine s_sub64 rfl rfl om ?_ | refine s_gtr rfl rfl ?_) | (refine k_idx ?_; refine s_idxI rfl rfl om om ?_) | (refine k_call ?_; refine s_len rfl ?_)))
    rw [htop]
    obtain ⟨m1, m2, m3⟩ := hO.mem tb (by simp)
    obtain ⟨r1, r2⟩ := hO.rng _ m2
    have hr := hrow tb.toNat m2
    have hln := hlen tb.toNat m2
    rw [← hr] at r2
    have hvt : (nth next tb.toNat).toNat < (nth g.fOuts.xs tb.toNat).xs.length → 0 ≤ nth (nth g.fOuts.xs tb.toNat).xs (nth next tb.toNat).toNat ∧ nth (nth g.fOuts.xs tb.toNat).xs (nth next tb.toNat).toNat < n := fun h => by
      have := outsOf_vld tb.toNat _ (show nth (nth g.fOuts.xs tb.toNat).xs (nth next tb.toNat).toNat ∈ outsOf ways tb.toNat by rw [← hr]; exact nth_mem h)
      unfold vld at this
      rw [hw] at this
      exact of_decide_eq_true this
    have hes : ∀ c, ∀ t ∈ outsOf ways c, vld n t = true := fun c t ht => by rw [← hw]; exact outsOf_vld c t ht
    (repeat' (first | refine s_move ?_ | refine s_assign ?_ | refine s_nil ?_ | (refine k_C ?_; first | refine s_seq ?_ | refine s_region ?_ | refine s_stillP foI rfl (by kernel_rfl) ?_ | refine s_skip ?_ | refine s_exit ?_ | (refine s_ifd rfl ?_ ?_ <;> intro hc <;> try (exfalso; omega)) | (refine s_if rfl ?_ ?_ <;> intro hc)) | (refine k_E ?_; first | refine e_seq ?_ | refine e_seq_exit ?_ | refine e_bk_exit ?_ | refine e_bk ?_) | (refine k_load ?_; first | refine s_ldRB rfl rfl ?_ | refine s_ld rfl om rfl ?_ | refine s_ldS rfl rfl om rfl ?_) | (refine k_bin ?_; first | refine s_lss rfl rfl ?_ | refine s_add64 rfl rfl om ?_ | refine s_sub64 rfl rfl om ?_) | (refine k_fld ?_; refine s_fldB rfl ?_) | (refine k_idx ?_; first | refine s_idxI rfl rfl om om ?_ | refine s_idxSI rfl rfl om om ?_) | (refine k_store ?_; refine s_st _ rfl rfl om ?_) | (refine k_call ?_; refine s_len rfl ?_) | refine s_cutH rfl rfl om om ?_ | refine s_not rfl ?_ | refine s_nilck rfl ?_ | (refine s_app1 _ (fun _ => rfl) rfl om ?_; intro v A c)))
    · have hp := hO.push hes (by rw [← hr]; omega) (by rw [← hr]; have h : (!nth seen (nth (nth g.fOuts.xs tb.toNat).xs (nth next tb.toNat).toNat).toNat) = true := (by assumption); simpa using h)
      rw [← hr] at hp
      refine e_lp ⟨A, c, lw + 1, nth (nth g.fOuts.xs tb.toNat).xs (nth next tb.toNat).toNat :: tb :: rest, seen.set (nth (nth g.fOuts.xs tb.toNat).xs (nth next tb.toNat).toNat).toNat true, next.set tb.toNat (nth next tb.toNat + 1), Ao, co, lo, out, rem.set tb.toNat (rem.getD tb.toNat 0 - 1)⟩ (by repeat (first | exact trivial | refine ⟨rfl, ?_⟩)) ⟨hp.1, by simp; omega, hlo⟩ ?_ (PSub.eq (by simp))
      have := hp.2
      show 2 * _ + (_ :: _ :: rest).length < 2 * _ + (_ :: rest).length
      simp only [List.length_cons]
      omega
    · have hp := hO.skip (by rw [← hr]; omega) (by rw [← hr]; have h : (!nth seen (nth (nth g.fOuts.xs tb.toNat).xs (nth next tb.toNat).toNat).toNat) = false := (by assumption); simpa using h)
      refine e_lp ⟨Aw, cw, lw, tb :: rest, seen, next.set tb.toNat (nth next tb.toNat + 1), Ao, co, lo, out, rem.set tb.toNat (rem.getD tb.toNat 0 - 1)⟩ (by repeat (first | exact trivial | refine ⟨rfl, ?_⟩)) ⟨hp.1, by simp; omega, hlo⟩ ?_ PSub.refl
      have := hp.2
      dsimp only
      omega
    · have hp := hO.pop (by rw [← hr]; omega)
      refine e_lp ⟨Aw, cw, (((lw : Nat) : Int) - 1).toNat, rest, seen, next, A, c, lo + 1, out ++ [tb], rem⟩ (by repeat (first | exact trivial | refine ⟨rfl, ?_⟩)) ⟨hp, by simp only; omega, by simp; omega⟩ ?_ (PSub.eq ?_)
      · show 2 * _ + rest.length < 2 * _ + (_ :: rest).length
        simp only [List.length_cons]; omega
      · have e : (((lw : Nat) : Int) - 1).toNat = rest.reverse.length := by rw [List.length_reverse]; omega
        have e2 : (tb :: rest).reverse.take (((lw : Nat) : Int) - 1).toNat = rest.reverse := by rw [e, List.reverse_cons, List.take_left' rfl]
        rw [e2]
end Go.Proofs.Ytfplmdjlgjgbgaa
