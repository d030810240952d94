/- Layer 15: registers, plainly; the function of LiveLine. -/
import Derived.Test.YtfplmdjlgjgbgaaV9
namespace Go.Proofs.Ytfplmdjlgjgbgaa
set_option linter.unusedVariables false
set_option linter.unusedSimpArgs false
open Go Go.RowKit

theorem PickL.split {M : Nat} {l1 l2 : List (Int × (Int → Bool))} {R R2 : Int → Option Int} (h : PickL M (l1 ++ l2) R R2) : ∃ R1, PickL M l1 R R1 ∧ PickL M l2 R1 R2 := by
  induction l1 generalizing R with
  | nil => exact ⟨R, .nil, h⟩
  | cons a l1 ih =>
    cases h with
    | cons h1 h2 =>
      obtain ⟨R1, h3, h4⟩ := ih h2
      exact ⟨R1, .cons h1 h3, h4⟩
theorem nodup_map_on {α β : Type} {f : α → β} : ∀ {l : List α}, (∀ x ∈ l, ∀ y ∈ l, f x = f y → x = y) → l.Nodup → (l.map f).Nodup
  | [], _, _ => List.nodup_nil
  | a :: l, hf, h => by
    obtain ⟨h1, h2⟩ := List.nodup_cons.1 h
    rw [List.map_cons]
    refine List.nodup_cons.2 ⟨fun hm => ?_, nodup_map_on (fun x hx y hy => hf x (by simp [hx]) y (by simp [hy])) h2⟩
    obtain ⟨b, hb, e⟩ := List.mem_map.1 hm
    exact h1 (hf b (by simp [hb]) a (by simp) e ▸ hb)
/-- Where no register is free there are as many others as registers. -/
theorem PickNo.card {M : Nat} {R : Int → Option Int} {p : Int → Bool} {v : Int} (h : PickNo M R p v) {us : List Int} (hus : ∀ k, p k = true → k ≠ v → k ∈ us) : M ≤ us.length := by
  have h' : ∀ c, ∃ o, c < M → p o = true ∧ o ≠ v ∧ R o = some (c : Int) := fun c => by
    by_cases hc : c < M
    · obtain ⟨o, ho⟩ := h c hc; exact ⟨o, fun _ => ho⟩
    · exact ⟨0, fun h => absurd h hc⟩
  have hg : ∃ g : Nat → Int, ∀ c, c < M → p (g c) = true ∧ g c ≠ v ∧ R (g c) = some (c : Int) := ⟨fun c => Classical.choose (h' c), fun c => Classical.choose_spec (h' c)⟩
  obtain ⟨g, hg⟩ := hg
  have hn : ((List.range M).map g).Nodup := nodup_map_on (fun x hx y hy e => by
    have h1 := (hg x (List.mem_range.1 hx)).2.2
    have h2 := (hg y (List.mem_range.1 hy)).2.2
    rw [e, h2] at h1
    have := Option.some.inj h1
    omega) List.nodup_range
  have := nodup_le (us := us) hn fun k hk => by
    obtain ⟨c, hc, rfl⟩ := List.mem_map.1 hk
    obtain ⟨h1, h2, _⟩ := hg c (List.mem_range.1 hc)
    exact hus _ h1 h2
  simpa using this
/-! a function of one block, without ways -/
structure One (f : SsaFunc) (bl : SsaBlock) : Prop where
  b : f.fBlocks.xs = [bl]
  w : bl.fEnd.fWays.xs = []
theorem One.at {f : SsaFunc} {bl : SsaBlock} (h : One f bl) : nth f.fBlocks.xs 0 = bl := by rw [h.b]; rfl
theorem One.out {f : SsaFunc} {bl : SsaBlock} (h : One f bl) {I O : Nat → Int → Bool} (hQ : FixQ f I O) : O 0 = (fun _ => false) ∧ I 0 = backP bl (fun _ => false) := by
  have h0 : 0 < f.fBlocks.xs.length := by rw [h.b]; exact Nat.one_pos
  have hO : O 0 = fun _ => false := by
    funext k
    cases hk : O 0 k with
    | false => rfl
    | true =>
      obtain ⟨w, hw, _⟩ := hQ.inv.sound 0 h0 k hk
      rw [h.at, h.w] at hw; cases hw
  have := (hQ.at_ 0 h0).1
  rw [h.at, hO] at this
  exact ⟨hO, this⟩
theorem One.ord {f : SsaFunc} {bl : SsaBlock} (h : One f bl) {o : List Int} (ho : OrdF f o) : o = [0] := by
  have hl : f.fBlocks.xs.length = 1 := by rw [h.b]; rfl
  rcases ho with ⟨h1, _⟩ | ⟨_, fin, ⟨s1, hV, rfl⟩, _, rfl⟩
  · omega
  · have hw : outsOf (waysF f) 0 = [] := by
      have : (waysF f)[0]? = some [] := by rw [waysF_at (by omega), h.at, h.w]; rfl
      unfold outsOf waysAt
      rw [this]; rfl
    rw [hw] at hV
    cases hV
    rfl
/-! the block of LiveLine -/
def lastv (n m : Nat) : Int := if m = 0 then 1 else ((n + m + 1 : Nat) : Int)
theorem lastv_succ {n m : Nat} : lastv n (m + 1) = ((n + m + 2 : Nat) : Int) := by unfold lastv; rw [if_neg (by omega)]; congr 1
theorem lastv_at {n m : Nat} : lastv n m = 1 ∧ m = 0 ∨ lastv n m = ((n + m + 1 : Nat) : Int) ∧ 0 < m := by
  unfold lastv
  by_cases h : m = 0
  · rw [if_pos h]; exact .inl ⟨rfl, h⟩
  · rw [if_neg h]; exact .inr ⟨rfl, by omega⟩
structure LineB (n : Nat) (bl : SsaBlock) : Prop where
  n1 : 1 ≤ n
  p : bl.fParams.xs = []
  l : bl.fIns.xs.length = 2 * n - 1
  c : ∀ k, k < n → (nth bl.fIns.xs k).fDst = ((k + 1 : Nat) : Int) ∧ (nth bl.fIns.xs k).fArgs.xs = []
  b : ∀ m, m + 1 < n → (nth bl.fIns.xs (n + m)).fDst = ((n + m + 2 : Nat) : Int) ∧ (nth bl.fIns.xs (n + m)).fArgs.xs = [lastv n m, ((m + 2 : Nat) : Int)]
  e : bl.fEnd.fVal = lastv n (n - 1)
  w : bl.fEnd.fWays.xs = []
section
variable {n : Nat} {bl : SsaBlock}
theorem LineB.uses (h : LineB n bl) : usesE bl.fEnd = [lastv n (n - 1)] := by
  unfold usesE
  rw [h.w, h.e, if_pos]
  · rfl
  · rcases lastv_at (n := n) (m := n - 1) with ⟨h1, _⟩ | ⟨h1, _⟩ <;> rw [h1] <;> omega
theorem LineB.liveN (h : LineB n bl) : ∀ d m, m + d + 1 = n → liveB bl (fun _ => false) (n + m) = fun v => decide (v = lastv n m ∨ ((m + 2 : Nat) : Int) ≤ v ∧ v ≤ n)
  | 0, m, hd => by
    have hn := h.n1
    have e : n + m = bl.fIns.xs.length := by rw [h.l]; omega
    have em : n - 1 = m := by omega
    rw [e, liveB_end, h.uses, em]
    funext v
    unfold addL
    rw [Bool.eq_iff_iff]
    simp only [Bool.false_or, decide_eq_true_eq, List.mem_singleton]
    omega
  | d + 1, m, hd => by
    have hn := h.n1
    have ih := h.liveN d (m + 1) (by omega)
    rw [liveB_step (by rw [h.l]; omega), show n + m + 1 = n + (m + 1) by omega, ih, lastv_succ]
    obtain ⟨h1, h2⟩ := h.b m (by omega)
    funext v
    unfold stepI addL
    rw [Bool.eq_iff_iff, h1, h2]
    simp only [Bool.or_eq_true, Bool.and_eq_true, decide_eq_true_eq, Bool.not_eq_true', decide_eq_false_iff_not, List.mem_cons, List.not_mem_nil, or_false]
    omega
theorem LineB.liveC (h : LineB n bl) : ∀ d k, k + d = n → liveB bl (fun _ => false) k = fun v => decide (1 ≤ v ∧ v ≤ (k : Int))
  | 0, k, hd => by
    have hn := h.n1
    obtain rfl : k = n := by omega
    have := h.liveN (k - 1) 0 (by omega)
    rw [Nat.add_zero] at this
    rw [this]
    funext v
    rw [Bool.eq_iff_iff]
    simp only [decide_eq_true_eq]
    unfold lastv
    rw [if_pos rfl]
    omega
  | d + 1, k, hd => by
    have ih := h.liveC d (k + 1) (by omega)
    rw [liveB_step (by rw [h.l]; omega), ih]
    obtain ⟨h1, h2⟩ := h.c k (by omega)
    funext v
    unfold stepI addL
    rw [Bool.eq_iff_iff, h1, h2]
    simp only [Bool.or_eq_true, Bool.and_eq_true, decide_eq_true_eq, Bool.not_eq_true', decide_eq_false_iff_not, List.not_mem_nil, or_false]
    omega
/-- the values from a on, c of them -/
def ivl (a c : Nat) : List Int := (List.range c).map fun i => ((a + i : Nat) : Int)
theorem ivl_nodup (a c : Nat) : (ivl a c).Nodup := nodup_map_on (fun x _ y _ e => by omega) List.nodup_range
theorem ivl_mem {a c : Nat} {v : Int} : v ∈ ivl a c ↔ (a : Int) ≤ v ∧ v < ((a + c : Nat) : Int) := by
  unfold ivl
  rw [List.mem_map]
  constructor
  · rintro ⟨i, hi, rfl⟩
    have := List.mem_range.1 hi
    omega
  · rintro ⟨h1, h2⟩
    exact ⟨v.toNat - a, List.mem_range.2 (by omega), by omega⟩
theorem ivl_len (a c : Nat) : (ivl a c).length = c := by unfold ivl; simp
theorem LineB.card (h : LineB n bl) {us : List Int} (hu : ∀ k, k ∈ usB bl → k ∈ us) {k : Nat} (hk : k ≤ bl.fIns.xs.length) : cardU us (liveB bl (fun _ => false) k) = if k ≤ n then k else 2 * n - k := by
  have hn := h.n1
  have hl := h.l
  have hin : ∀ v, liveB bl (fun _ => false) k v = true → v ∈ us := fun v hv => by
    rcases liveB_in hv with h1 | h1
    · cases h1
    · exact hu v h1
  by_cases hkn : k ≤ n
  · rw [if_pos hkn]
    have hl := h.liveC (n - k) k (by omega)
    rw [← cardU_of (ks := ivl 1 k) (ivl_nodup 1 k) (fun v => by rw [ivl_mem, setP_ne, hl, decide_eq_true_eq]; omega) hin, ivl_len]
  · rw [if_neg hkn]
    obtain ⟨m, rfl⟩ : ∃ m, k = n + m := ⟨k - n, by omega⟩
    have hl := h.liveN (n - m - 1) m (by omega)
    rw [← cardU_of (ks := lastv n m :: ivl (m + 2) (n - m - 1)) (List.nodup_cons.2 ⟨fun hm => by
        rw [ivl_mem] at hm
        rcases lastv_at (n := n) (m := m) with ⟨h1, h2⟩ | ⟨h1, h2⟩ <;> rw [h1] at hm <;> omega, ivl_nodup _ _⟩) (fun v => by rw [List.mem_cons, ivl_mem, setP_ne, hl, decide_eq_true_eq]; omega) hin, List.length_cons, ivl_len]
    omega
theorem LineB.dst (h : LineB n bl) {k : Nat} (hk : k < bl.fIns.xs.length) : (nth bl.fIns.xs k).fDst ≠ 0 ∧ liveB bl (fun _ => false) (k + 1) (nth bl.fIns.xs k).fDst = true := by
  have hn := h.n1
  have hl := h.l
  by_cases hkn : k < n
  · rw [(h.c k hkn).1, h.liveC (n - (k + 1)) (k + 1) (by omega)]
    refine ⟨by omega, decide_eq_true ?_⟩
    omega
  · obtain ⟨m, rfl⟩ : ∃ m, k = n + m := ⟨k - n, by omega⟩
    rw [(h.b m (by omega)).1, show n + m + 1 = n + (m + 1) by omega, h.liveN (n - (m + 1) - 1) (m + 1) (by omega), lastv_succ]
    refine ⟨by omega, decide_eq_true ?_⟩
    omega
theorem LineB.press (h : LineB n bl) {us : List Int} (hu : ∀ k, k ∈ usB bl → k ∈ us) : ∀ d r, r + d = bl.fIns.xs.length → atS (pressI us bl) bl (fun _ => false) 0 r ≤ n ∧ (r < n → n ≤ atS (pressI us bl) bl (fun _ => false) 0 r)
  | 0, r, hd => by
    have hn := h.n1
    have hl := h.l
    obtain rfl : r = bl.fIns.xs.length := by omega
    rw [atS_end]
    exact ⟨Nat.zero_le _, fun h => by omega⟩
  | d + 1, r, hd => by
    have hn := h.n1
    have hl := h.l
    obtain ⟨h1, h2⟩ := h.press hu d (r + 1) (by omega)
    obtain ⟨h3, h4⟩ := h.dst (k := r) (by omega)
    rw [atS_step (by omega)]
    generalize atS (pressI us bl) bl (fun _ => false) 0 (r + 1) = z at h1 h2 ⊢
    unfold pressI
    rw [if_neg (fun hh => by rw [h4] at hh; cases hh.2), h.card hu (by omega)]
    split <;> constructor <;> intros <;> omega
theorem jobsI_mem {out : Int → Bool} : ∀ {k : Nat} {v : Int} {p : Int → Bool}, (v, p) ∈ jobsI bl out k → ∃ j, j < k ∧ v = (nth bl.fIns.xs j).fDst ∧ p = liveB bl out (j + 1)
  | k, v, p, h => by
    unfold jobsI at h
    obtain ⟨j, hj, h⟩ := List.mem_flatMap.1 h
    split at h
    · cases h
    · rw [List.mem_singleton] at h
      exact ⟨j, List.mem_range.1 hj, congrArg Prod.fst h, congrArg Prod.snd h⟩
theorem LineB.jobs (h : LineB n bl) {inn out : Int → Bool} : jobsB bl inn out = jobsI bl out bl.fIns.xs.length := by unfold jobsB; rw [h.p]; rfl
/-- As many registers as values are enough. -/
theorem LineB.enough (h : LineB n bl) {inn : Int → Bool} {R : Int → Option Int} : ¬ PickF n (jobsB bl inn (fun _ => false)) R := by
  rintro ⟨pre, v, p, post, R1, h1, h2, h3⟩
  have hn := h.n1
  have hl := h.l
  rw [h.jobs] at h1
  obtain ⟨k, hk, rfl, rfl⟩ := jobsI_mem (show (v, p) ∈ jobsI bl (fun _ => false) bl.fIns.xs.length by rw [h1]; simp)
  by_cases hkn : k < n
  · have := h3.card (us := ivl 1 k) fun v hv hne => by
      rw [h.liveC (n - (k + 1)) (k + 1) (by omega), decide_eq_true_eq] at hv
      rw [(h.c k hkn).1] at hne
      rw [ivl_mem]; omega
    rw [ivl_len] at this
    omega
  · obtain ⟨m, rfl⟩ : ∃ m, k = n + m := ⟨k - n, by omega⟩
    have := h3.card (us := ivl (m + 3) (n - m - 2)) fun v hv hne => by
      rw [show n + m + 1 = n + (m + 1) by omega, h.liveN (n - (m + 1) - 1) (m + 1) (by omega), lastv_succ, decide_eq_true_eq] at hv
      rw [(h.b m (by omega)).1] at hne
      rw [ivl_mem]; omega
    rw [ivl_len] at this
    omega
/-- With one register less not all values have one. -/
theorem LineB.picks (h : LineB n bl) {M : Nat} : ∀ k R, k ≤ n → PickL M (jobsI bl (fun _ => false) k) (fun _ => none) R → ∃ g : Nat → Nat, (∀ i, i < k → g i < M ∧ R ((i + 1 : Nat) : Int) = some (g i : Int)) ∧ ∀ i j, i < k → j < k → g i = g j → i = j
  | 0, R, _, _ => ⟨fun _ => 0, fun i hi => absurd hi (Nat.not_lt_zero i), fun i j hi => absurd hi (Nat.not_lt_zero i)⟩
  | k + 1, R, hk, hP => by
    obtain ⟨h1, _⟩ := h.c k (by omega)
    rw [jobsI_succ, h1, if_neg (by omega)] at hP
    obtain ⟨R1, hP1, hP2⟩ := hP.split
    obtain ⟨g, hg1, hg2⟩ := h.picks k R1 (by omega) hP1
    cases hP2 with
    | cons hp hnil =>
      cases hnil
      obtain ⟨c, hc1, hc2, _, rfl⟩ := hp
      have hne : ∀ i, i < k → g i ≠ c := fun i hi e => hc2 ⟨((i + 1 : Nat) : Int), by
        rw [h.liveC (n - (k + 1)) (k + 1) (by omega), decide_eq_true_eq]; omega, by omega, by rw [(hg1 i hi).2, e]⟩
      refine ⟨fun i => if i = k then c else g i, fun i hi => ?_, fun i j hi hj e => ?_⟩
      · dsimp only
        by_cases e : i = k
        · subst e
          rw [if_pos rfl, upd_same]
          exact ⟨hc1, rfl⟩
        · rw [if_neg e, upd_other _ (by omega)]
          exact hg1 i (by omega)
      · dsimp only at e
        by_cases ei : i = k
        · by_cases ej : j = k
          · omega
          · rw [if_pos ei, if_neg ej] at e
            exact absurd e.symm (hne j (by omega))
        · by_cases ej : j = k
          · rw [if_neg ei, if_pos ej] at e
            exact absurd e (hne i (by omega))
          · rw [if_neg ei, if_neg ej] at e
            exact hg2 i j (by omega) (by omega) e
theorem LineB.few (h : LineB n bl) {M : Nat} (hM : M < n) {inn : Int → Bool} {R : Int → Option Int} : ¬ PickL M (jobsB bl inn (fun _ => false)) (fun _ => none) R := by
  intro hP
  have hl := h.l
  rw [h.jobs] at hP
  obtain ⟨post, hpost⟩ := jobsI_pre (bl := bl) (out := fun _ => false) (k := n) (n := bl.fIns.xs.length) (by omega)
  rw [hpost] at hP
  obtain ⟨R1, hP1, _⟩ := hP.split
  obtain ⟨g, hg1, hg2⟩ := h.picks n R1 (Nat.le_refl _) hP1
  have hn : ((List.range n).map fun i => ((g i : Nat) : Int)).Nodup := nodup_map_on (fun x hx y hy e => hg2 x y (List.mem_range.1 hx) (List.mem_range.1 hy) (by omega)) List.nodup_range
  have := nodup_le (us := ivl 0 M) hn fun k hk => by
    obtain ⟨c, hc, rfl⟩ := List.mem_map.1 hk
    have := (hg1 c (List.mem_range.1 hc)).1
    rw [ivl_mem]; omega
  rw [ivl_len, List.length_map, List.length_range] at this
  omega
end

def constI (k : Nat) : SsaIns := ⟨1, ((k + 1 : Nat) : Int), Enc.dflt, Enc.dflt, Enc.dflt, Enc.dflt, Enc.dflt⟩
def binI (n m : Nat) (a : Sl Int) : SsaIns := ⟨2, ((n + (m + 2) : Nat) : Int), a, Enc.dflt, 1, Enc.dflt, Enc.dflt⟩
def csI (k : Nat) : List SsaIns := (List.range k).map constI
def bsI (n : Nat) (ags : List (Sl Int)) : List SsaIns := (List.range ags.length).map fun m => binI n m (nth ags m)
theorem csI_succ {k : Nat} : csI (k + 1) = csI k ++ [constI k] := by unfold csI; rw [List.range_succ, List.map_append]; rfl
theorem bsI_succ {n : Nat} {ags : List (Sl Int)} {a : Sl Int} : bsI n (ags ++ [a]) = bsI n ags ++ [binI n ags.length a] := by
  unfold bsI
  rw [List.length_append, List.length_singleton, List.range_succ, List.map_append, List.map_singleton]
  congr 1
  · refine List.map_congr_left fun m hm => ?_
    have := List.mem_range.1 hm
    rw [nth_app, if_pos this]
  · rw [nth_app, if_neg (Nat.lt_irrefl _), Nat.sub_self]; rfl
structure ArgsOk (n j : Nat) (ags : List (Sl Int)) : Prop where
  l : ags.length = j
  x : ∀ m, m < j → (nth ags m).xs = [lastv n m, ((m + 2 : Nat) : Int)]
def lineBlk (n : Nat) (A : Option Addr) (c : Nat) (ags : List (Sl Int)) : SsaBlock := ⟨Enc.dflt, ⟨A, c, csI n ++ bsI n ags⟩, ⟨3, lastv n (n - 1), Enc.dflt, Enc.dflt⟩⟩
theorem lineB {n : Nat} (hn : 1 ≤ n) {A : Option Addr} {c : Nat} {ags : List (Sl Int)} (ha : ArgsOk n (n - 1) ags) : LineB n (lineBlk n A c ags) := by
  have hcl : (csI n).length = n := by simp [csI]
  have hc : ∀ k, k < n → nth (csI n ++ bsI n ags) k = constI k := fun k hk => by
    rw [nth_app, if_pos (by rw [hcl]; exact hk)]
    unfold csI
    exact nth_of (by rw [List.getElem?_map, List.getElem?_range hk]; rfl)
  have hb : ∀ m, m + 1 < n → nth (csI n ++ bsI n ags) (n + m) = binI n m (nth ags m) := fun m hm => by
    rw [nth_app, if_neg (by rw [hcl]; omega), hcl, Nat.add_sub_cancel_left]
    unfold bsI
    exact nth_of (by rw [List.getElem?_map, List.getElem?_range (by rw [ha.l]; omega)]; rfl)
  refine ⟨hn, rfl, ?_, fun k hk => ?_, fun m hm => ?_, rfl, rfl⟩
  · show (csI n ++ bsI n ags).length = _
    rw [List.length_append, hcl]
    unfold bsI
    rw [List.length_map, List.length_range, ha.l]; omega
  · show (nth (csI n ++ bsI n ags) k).fDst = _ ∧ (nth (csI n ++ bsI n ags) k).fArgs.xs = _
    rw [hc k hk]; exact ⟨rfl, rfl⟩
  · show (nth (csI n ++ bsI n ags) (n + m)).fDst = _ ∧ (nth (csI n ++ bsI n ags) (n + m)).fArgs.xs = _
    rw [hb m hm]
    exact ⟨rfl, ha.x m (by omega)⟩
def lineF (n : Nat) (A : Option Addr) (c : Nat) (ags : List (Sl Int)) (A2 : Option Addr) : SsaFunc := ⟨Enc.dflt, ⟨A2, 1, [lineBlk n A c ags]⟩⟩
theorem line_okF {n : Nat} (hn : 1 ≤ n) (hn2 : n ≤ 64) {A : Option Addr} {c : Nat} {ags : List (Sl Int)} {A2 : Option Addr} (ha : ArgsOk n (n - 1) ags) : OkF (lineF n A c ags A2) ∧ (usP (lineF n A c ags A2)).length ≤ 900000000 := by
  have hB := lineB (A := A) (c := c) hn ha
  have hl := hB.l
  have hargs : ∀ m, m < (lineBlk n A c ags).fIns.xs.length → (nth (lineBlk n A c ags).fIns.xs m).fArgs.xs.length ≤ 2 := fun m hm => by
    by_cases h : m < n
    · rw [(hB.c m h).2]; exact Nat.zero_le _
    · obtain ⟨q, rfl⟩ : ∃ q, m = n + q := ⟨m - n, by omega⟩
      rw [(hB.b q (by omega)).2]; exact Nat.le_refl _
  have hflat : ∀ l : List SsaIns, (∀ m, m < l.length → (nth l m).fArgs.xs.length ≤ 2) → (l.flatMap (·.fArgs.xs)).length ≤ 2 * l.length := fun l => by
    induction l with
    | nil => intro _; exact Nat.le_refl _
    | cons a l ih =>
      intro h
      have h0 := h 0 (by simp)
      have h1 := ih fun m hm => h (m + 1) (by simpa using hm)
      have h0 : a.fArgs.xs.length ≤ 2 := h0
      rw [List.flatMap_cons, List.length_append, List.length_cons]; omega
  have hus : (usU (lineF n A c ags A2)).length ≤ 1000 := by
    have : usU (lineF n A c ags A2) = usB (lineBlk n A c ags) := by unfold usU lineF; simp
    rw [this]
    unfold usB
    have := hflat _ hargs
    rw [List.length_append, hB.uses, List.length_singleton]; omega
  refine ⟨⟨by show 1 ≤ 1000; omega, fun i hi => ?_, by omega⟩, ?_⟩
  · have : i = 0 := by have : i < 1 := hi; omega
    subst this
    exact ⟨Nat.zero_le _, by show (lineBlk n A c ags).fIns.xs.length ≤ 1000; omega, fun m hm => Nat.le_trans (hargs m hm) (by omega), Nat.zero_le _, by
      show (usesE (lineBlk n A c ags).fEnd).length ≤ _
      rw [hB.uses]; simp⟩
  · unfold usP
    rw [List.length_append]
    have : ((lineF n A c ags A2).fBlocks.xs.flatMap fun b => b.fParams.xs).length = 0 := rfl
    omega
theorem line_one {n : Nat} (hn : 1 ≤ n) {A : Option Addr} {c : Nat} {ags : List (Sl Int)} {A2 : Option Addr} (ha : ArgsOk n (n - 1) ags) : One (lineF n A c ags A2) (lineBlk n A c ags) := ⟨rfl, rfl⟩
/-- What the two tell of it. -/
theorem line_press {n : Nat} (hn : 1 ≤ n) {A : Option Addr} {c : Nat} {ags : List (Sl Int)} {A2 : Option Addr} (ha : ArgsOk n (n - 1) ags) {I O : Nat → Int → Bool} {o : List Int} (hQ : FixQ (lineF n A c ags A2) I O) (ho : OrdF (lineF n A c ags A2) o) : pressF (lineF n A c ags A2) I O o = n := by
  have h1 := line_one (A := A) (c := c) (A2 := A2) hn ha
  have hB := lineB (A := A) (c := c) hn ha
  obtain ⟨e1, e2⟩ := h1.out hQ
  have hu : ∀ k, k ∈ usB (lineBlk n A c ags) → k ∈ usP (lineF n A c ags A2) := fun k hk => List.mem_append_left _ (List.mem_flatMap.2 ⟨lineBlk n A c ags, by simp [lineF], hk⟩)
  rw [h1.ord ho]
  show pressB (lineF n A c ags A2) I O 0 0 = n
  unfold pressB
  rw [h1.at, e1, e2]
  have e3 : cardU (usP (lineF n A c ags A2)) (addL (backP (lineBlk n A c ags) fun _ => false) (lineBlk n A c ags).fParams.xs) = 0 := by
    rw [hB.p, addL_nil]
    have := hB.card hu (k := 0) (Nat.zero_le _)
    rw [if_pos (Nat.zero_le _)] at this
    exact this
  rw [e3]
  obtain ⟨h3, h4⟩ := hB.press hu (lineBlk n A c ags).fIns.xs.length 0 (by omega)
  have := h4 (by omega)
  exact Nat.le_antisymm h3 this
theorem line_jobs {n : Nat} (hn : 1 ≤ n) {A : Option Addr} {c : Nat} {ags : List (Sl Int)} {A2 : Option Addr} (ha : ArgsOk n (n - 1) ags) {I O : Nat → Int → Bool} {o : List Int} (hQ : FixQ (lineF n A c ags A2) I O) (ho : OrdF (lineF n A c ags A2) o) : jobsF (lineF n A c ags A2) I O o = jobsB (lineBlk n A c ags) (I 0) (fun _ => false) := by
  have h1 := line_one (A := A) (c := c) (A2 := A2) hn ha
  obtain ⟨e1, _⟩ := h1.out hQ
  rw [h1.ord ho]
  unfold jobsF
  rw [List.flatMap_cons, List.flatMap_nil, List.append_nil]
  show jobsB (nth (lineF n A c ags A2).fBlocks.xs 0) (I 0) (O 0) = _
  rw [h1.at, e1]
end Go.Proofs.Ytfplmdjlgjgbgaa
