/- CutGreat, plainly: places in rows. -/
import Derived.Test.YtmmjecopcjkeaaaC14
namespace Go.Proofs.Ytmmjecopcjkeaaa
set_option linter.unusedVariables false
set_option linter.unusedSimpArgs false
open Go Go.RowKit

/-- The places of a row. -/
def rowD (wide r : Nat) (u : Nat) : Bool := decide (u / wide = r)
def GF (wide v : Nat) (l : List Int) : Prop := (∀ x, x ∈ l ↔ ∃ u : Nat, u < v ∧ u < wide ∧ x = u) ∧ l.length ≤ v
def GT (m v : Nat) (l : List Int) : Prop := (∀ x, x ∈ l ↔ ∃ u : Nat, u < v ∧ m ≤ u ∧ x = u) ∧ l.length ≤ v
def mkW (wide u k : Nat) : Ar2 Int := ⟨(u : Int), (((u / wide + 1) * wide + k : Nat) : Int)⟩
def GY (t wide v j : Nat) (l : List (Ar2 Int)) : Prop := (∀ p, p ∈ l ↔ (∃ u k : Nat, u < v ∧ k < wide ∧ u + wide < t ∧ p = mkW wide u k) ∨ (∃ k : Nat, k < j ∧ v + wide < t ∧ p = mkW wide v k)) ∧ l.length ≤ v * wide + j
theorem GF.nil {wide : Nat} : GF wide 0 [] := ⟨fun x => ⟨fun h => (by cases h), fun ⟨u, h, _⟩ => absurd h (Nat.not_lt_zero _)⟩, Nat.le_refl _⟩
theorem GT.nil {m : Nat} : GT m 0 [] := ⟨fun x => ⟨fun h => (by cases h), fun ⟨u, h, _⟩ => absurd h (Nat.not_lt_zero _)⟩, Nat.le_refl _⟩
theorem GY.nil {t wide : Nat} : GY t wide 0 0 [] := ⟨fun x => ⟨fun h => (by cases h), fun h => by
  rcases h with ⟨u, k, h, _⟩ | ⟨k, h, _⟩ <;> exact absurd h (Nat.not_lt_zero _)⟩, Nat.zero_le _⟩
theorem GF.add {wide v : Nat} {l : List Int} (h : GF wide v l) (hv : v < wide) : GF wide (v + 1) (l ++ [(v : Int)]) := by
  refine ⟨fun x => ?_, by rw [List.length_append, List.length_singleton]; have := h.2; omega⟩
  rw [List.mem_append, List.mem_singleton, h.1]
  constructor
  · rintro (⟨u, h1, h2, h3⟩ | h3)
    · exact ⟨u, by omega, h2, h3⟩
    · exact ⟨v, by omega, hv, h3⟩
  · rintro ⟨u, h1, h2, h3⟩
    by_cases e : u = v
    · subst e; exact .inr h3
    · exact .inl ⟨u, by omega, h2, h3⟩
theorem GF.skip {wide v : Nat} {l : List Int} (h : GF wide v l) (hv : ¬ v < wide) : GF wide (v + 1) l := by
  refine ⟨fun x => ?_, by have := h.2; omega⟩
  rw [h.1]
  exact ⟨fun ⟨u, h1, h2, h3⟩ => ⟨u, by omega, h2, h3⟩, fun ⟨u, h1, h2, h3⟩ => ⟨u, by omega, h2, h3⟩⟩
theorem GT.add {m v : Nat} {l : List Int} (h : GT m v l) (hv : m ≤ v) : GT m (v + 1) (l ++ [(v : Int)]) := by
  refine ⟨fun x => ?_, by rw [List.length_append, List.length_singleton]; have := h.2; omega⟩
  rw [List.mem_append, List.mem_singleton, h.1]
  constructor
  · rintro (⟨u, h1, h2, h3⟩ | h3)
    · exact ⟨u, by omega, h2, h3⟩
    · exact ⟨v, by omega, hv, h3⟩
  · rintro ⟨u, h1, h2, h3⟩
    by_cases e : u = v
    · subst e; exact .inr h3
    · exact .inl ⟨u, by omega, h2, h3⟩
theorem GT.skip {m v : Nat} {l : List Int} (h : GT m v l) (hv : ¬ m ≤ v) : GT m (v + 1) l := by
  refine ⟨fun x => ?_, by have := h.2; omega⟩
  rw [h.1]
  refine ⟨fun ⟨u, h1, h2, h3⟩ => ⟨u, by omega, h2, h3⟩, fun ⟨u, h1, h2, h3⟩ => ⟨u, ?_, h2, h3⟩⟩
  omega
theorem GY.add {t wide v j : Nat} {l : List (Ar2 Int)} (h : GY t wide v j l) (hv : v + wide < t) : GY t wide v (j + 1) (l ++ [mkW wide v j]) := by
  refine ⟨fun x => ?_, by rw [List.length_append, List.length_singleton]; have := h.2; omega⟩
  rw [List.mem_append, List.mem_singleton, h.1]
  constructor
  · rintro ((h1 | ⟨k, h1, h2, h3⟩) | h3)
    · exact .inl h1
    · exact .inr ⟨k, by omega, h2, h3⟩
    · exact .inr ⟨j, by omega, hv, h3⟩
  · rintro (h1 | ⟨k, h1, h2, h3⟩)
    · exact .inl (.inl h1)
    · by_cases e : k = j
      · subst e; exact .inr h3
      · exact .inl (.inr ⟨k, by omega, h2, h3⟩)
theorem GY.turn {t wide v j : Nat} {l : List (Ar2 Int)} (h : GY t wide v j l) (hj : j ≤ wide) (hv : j = wide ∨ ¬ v + wide < t) : GY t wide (v + 1) 0 l := by
  refine ⟨fun x => ?_, by have := h.2; rw [Nat.succ_mul]; omega⟩
  rw [h.1]
  constructor
  · rintro (⟨u, k, h1, h2, h3, h4⟩ | ⟨k, h1, h2, h3⟩)
    · exact .inl ⟨u, k, by omega, h2, h3, h4⟩
    · exact .inl ⟨v, k, by omega, by omega, h2, h3⟩
  · rintro (⟨u, k, h1, h2, h3, h4⟩ | ⟨k, h1, _⟩)
    · by_cases e : u = v
      · subst e
        rcases hv with hv | hv
        · exact .inr ⟨k, by omega, h3, h4⟩
        · exact absurd h3 hv
      · exact .inl ⟨u, k, by omega, h2, h3, h4⟩
    · exact absurd h1 (Nat.not_lt_zero _)

theorem wgt_sub {ws : List Int} (hw : ∀ w ∈ ws, 1 ≤ w) : ∀ {v : Nat} {D C : Nat → Bool}, (∀ u, v ≤ u → u < v + ws.length → D u = true → C u = true) → wgt v ws D ≤ wgt v ws C ∧ ((∃ u, v ≤ u ∧ u < v + ws.length ∧ C u = true ∧ D u = false) → wgt v ws D + 1 ≤ wgt v ws C) := by
  induction ws with
  | nil => intro v D C _; exact ⟨Int.le_refl _, fun ⟨u, h1, h2, _⟩ => by simp at h2; omega⟩
  | cons w ws ih =>
    intro v D C h
    obtain ⟨i1, i2⟩ := ih (fun x hx => hw x (by simp [hx])) (v := v + 1) (D := D) (C := C) fun u h1 h2 => h u (by omega) (by simp; omega)
    have h0 := h v (Nat.le_refl _) (by simp)
    have hw0 := hw w (by simp)
    simp only [wgt]
    refine ⟨?_, fun ⟨u, h1, h2, h3, h4⟩ => ?_⟩
    · cases hD : D v <;> cases hC : C v <;> simp [hD, hC] at h0 ⊢ <;> omega
    · by_cases e : u = v
      · subst e
        rw [h3, h4]; simp; omega
      · have := i2 ⟨u, by omega, by simp at h2; omega, h3, h4⟩
        cases hD : D v <;> cases hC : C v <;> simp [hD, hC] at h0 ⊢ <;> omega
theorem div_row {wide u k : Nat} (hw : 0 < wide) (hk : k < wide) : ((u / wide + 1) * wide + k) / wide = u / wide + 1 := by
  rw [Nat.add_comm, Nat.add_mul_div_right _ _ hw, Nat.div_eq_of_lt hk]; omega
structure Grid (rows wide : Nat) (n : CutNet) : Prop where
  r : 0 < rows
  w : 0 < wide
  wl : n.fWeights.xs.length = rows * wide
  ws : ∀ w ∈ n.fWeights.xs, 1 ≤ w ∧ w ≤ 1024
  fr : GF wide (rows * wide) n.fFrom.xs
  to : GT ((rows - 1) * wide) (rows * wide) n.fTo.xs
  wy : GY (rows * wide) wide (rows * wide) 0 n.fWays.xs
variable {rows wide : Nat} {n : CutNet}
theorem Grid.row_cut (g : Grid rows wide n) {r : Nat} (hr : r < rows) : Cut (ntOf n) (rowD wide r) := by
  have key : ∀ v, Come (ntOf n) (rowD wide r) v → v / wide < r := by
    intro v hv
    induction hv with
    | @fr v h1 h2 =>
      obtain ⟨x, hx, rfl⟩ := List.mem_map.1 h1
      obtain ⟨u, _, hu, rfl⟩ := (g.fr.1 x).1 hx
      have h2 := of_decide_eq_false h2
      rw [Int.toNat_natCast, Nat.div_eq_of_lt hu] at h2 ⊢
      omega
    | @wy a b h1 h2 h3 ih =>
      obtain ⟨p, hp, he⟩ := List.mem_map.1 h2
      have h3 := of_decide_eq_false h3
      rcases (g.wy.1 p).1 hp with ⟨u, k, _, hk, _, rfl⟩ | ⟨k, hk, _⟩
      · simp only [mkW, Int.toNat_natCast, Prod.mk.injEq] at he
        obtain ⟨rfl, rfl⟩ := he
        rw [div_row g.w hk] at h3 ⊢
        omega
      · exact absurd hk (Nat.not_lt_zero _)
  intro v hv hc
  obtain ⟨x, hx, rfl⟩ := List.mem_map.1 hv
  obtain ⟨u, _, hu, rfl⟩ := (g.to.1 x).1 hx
  have h1 := key _ hc
  rw [Int.toNat_natCast] at h1
  have h2 : rows - 1 ≤ u / wide := (Nat.le_div_iff_mul_le g.w).2 hu
  omega
theorem Grid.cut_row (g : Grid rows wide n) {D : Nat → Bool} (hD : Cut (ntOf n) D) : ∃ r, r < rows ∧ ∀ u, u / wide = r → D u = true := by
  have gr := g.r
  have gw := g.w
  apply Classical.byContradiction
  intro hno
  have hex : ∀ r, r < rows → ∃ u, u / wide = r ∧ D u = false := fun r hr => by
    apply Classical.byContradiction
    intro h
    refine hno ⟨r, hr, fun u hu => ?_⟩
    cases hDu : D u with
    | true => rfl
    | false => exact absurd ⟨u, hu, hDu⟩ h
  have key : ∀ r, r < rows → ∀ u, u / wide = r → D u = false → Come (ntOf n) D u := by
    intro r
    induction r with
    | zero =>
      intro hr u hu hDu
      have hlt : u < wide := by
        rcases Nat.div_eq_zero_iff.1 hu with h | h
        · omega
        · exact h
      refine .fr (List.mem_map.2 ⟨(u : Int), (g.fr.1 _).2 ⟨u, ?_, hlt, rfl⟩, by simp⟩) hDu
      exact Nat.lt_of_lt_of_le hlt (Nat.le_mul_of_pos_left _ gr)
    | succ r ih =>
      intro hr u hu hDu
      obtain ⟨p, hp, hDp⟩ := hex r (by omega)
      have hm := Nat.div_add_mod p wide
      have hml := Nat.mod_lt p gw
      have hum := Nat.div_add_mod u wide
      have huml := Nat.mod_lt u gw
      have hle : (r + 1 + 1) * wide ≤ rows * wide := Nat.mul_le_mul_right _ (by omega)
      rw [hp, Nat.mul_comm] at hm
      rw [hu, Nat.mul_comm] at hum
      rw [Nat.succ_mul, Nat.succ_mul] at hle
      rw [Nat.succ_mul] at hum
      refine .wy (ih (by omega) p hp hDp) (List.mem_map.2 ⟨mkW wide p (u % wide), (g.wy.1 _).2 (.inl ⟨p, u % wide, by omega, huml, by omega, rfl⟩), ?_⟩) hDu
      simp only [mkW, Int.toNat_natCast, Prod.mk.injEq, true_and]
      rw [hp, Nat.succ_mul]; omega
  obtain ⟨u, hu, hDu⟩ := hex (rows - 1) (by omega)
  have hum := Nat.div_add_mod u wide
  have huml := Nat.mod_lt u gw
  rw [hu, Nat.mul_comm] at hum
  have e : rows * wide = (rows - 1) * wide + wide := by rw [← Nat.succ_mul]; congr 1; omega
  exact hD u (List.mem_map.2 ⟨(u : Int), (g.to.1 _).2 ⟨u, by omega, by omega, rfl⟩, by simp⟩) (key _ (by omega) u hu hDu)
theorem row_count {wide : Nat} (hw : 0 < wide) {r : Nat} : ∀ m, ((List.range (m * wide)).filter (rowD wide r)).length = if r < m then wide else 0
  | 0 => by simp
  | m + 1 => by
    rw [Nat.succ_mul, List.range_add, List.filter_append, List.length_append, row_count hw m, List.filter_map, List.length_map]
    have h1 : ∀ k ∈ List.range wide, (rowD wide r ∘ fun x => m * wide + x) k = decide (m = r) := fun k hk => by
      have hk := List.mem_range.1 hk
      show decide ((m * wide + k) / wide = r) = _
      rw [Nat.add_comm, Nat.add_mul_div_right _ _ hw, Nat.div_eq_of_lt hk, Nat.zero_add]
    rw [List.filter_congr h1]
    by_cases e : m = r
    · subst e
      rw [List.filter_eq_self.2 fun _ _ => by simp, List.length_range, if_neg (by omega), if_pos (by omega), Nat.zero_add]
    · rw [List.filter_eq_nil_iff.2 fun _ _ => by simp [e], List.length_nil, Nat.add_zero]
      by_cases h : r < m
      · rw [if_pos h, if_pos (by omega)]
      · rw [if_neg h, if_neg (by omega)]
/-- Of a least cut: it is a lightest row. -/
theorem Grid.least (g : Grid rows wide n) {C : Nat → Bool} (hc : Cut (ntOf n) C) (hm : ∀ D, Cut (ntOf n) D → wgt 0 n.fWeights.xs C ≤ wgt 0 n.fWeights.xs D) {best : Int} (hb1 : ∃ r, r < rows ∧ best = wgt 0 n.fWeights.xs (rowD wide r)) (hb2 : ∀ r, r < rows → best ≤ wgt 0 n.fWeights.xs (rowD wide r)) :
    wgt 0 n.fWeights.xs C = best ∧ (lst13 n C).length = wide := by
  obtain ⟨r0, h0, he⟩ := hb1
  obtain ⟨r, hr, hrow⟩ := g.cut_row hc
  have h1 := hm _ (g.row_cut h0)
  obtain ⟨h2, h3⟩ := wgt_sub (ws := n.fWeights.xs) (fun w hw => (g.ws w hw).1) (v := 0) (D := rowD wide r) (C := C) fun u _ _ hu => hrow u (of_decide_eq_true hu)
  have h4 := hb2 r hr
  have hle : ∀ u, u < n.fWeights.xs.length → C u = rowD wide r u := fun u hu => by
    cases hd : rowD wide r u with
    | true => exact hrow u (of_decide_eq_true hd)
    | false =>
      cases hcu : C u with
      | false => rfl
      | true =>
        have := h3 ⟨u, Nat.zero_le _, by omega, hcu, hd⟩
        omega
  refine ⟨by omega, ?_⟩
  unfold lst13
  rw [List.length_map, List.filter_congr fun u hu => hle u (List.mem_range.1 hu), g.wl, row_count g.w, if_pos hr]
theorem Grid.right (g : Grid rows wide n) (hl : rows * wide ≤ 2000) : rightN n = true := by
  have gw := g.w
  unfold rightN
  simp only [Bool.and_eq_true, List.all_eq_true, decide_eq_true_eq, List.mem_append]
  have hin : ∀ u : Nat, u < rows * wide → inB n (u : Int) = true := fun u hu => decide_eq_true (by rw [g.wl]; omega)
  refine ⟨⟨⟨fun w hw => decide_eq_true (by have := g.ws w hw; omega), fun p hp => ?_⟩, fun x hx => ?_⟩, by rw [g.wl]; exact hl⟩
  · rcases (g.wy.1 p).1 hp with ⟨u, k, h1, hk, h2, rfl⟩ | ⟨k, hk, _⟩
    · refine ⟨hin _ h1, hin _ ?_⟩
      have hd := Nat.div_add_mod u wide
      have hlt : u / wide + 1 < rows := by
        rw [show u / wide + 1 = (u + wide) / wide by rw [Nat.add_div_right _ gw]]
        exact Nat.div_lt_of_lt_mul (by rw [Nat.mul_comm]; exact h2)
      have : (u / wide + 1 + 1) * wide ≤ rows * wide := Nat.mul_le_mul_right _ hlt
      rw [Nat.succ_mul] at this
      omega
    · exact absurd hk (Nat.not_lt_zero _)
  · rcases hx with hx | hx
    · obtain ⟨u, h1, _, rfl⟩ := (g.fr.1 x).1 hx; exact hin _ h1
    · obtain ⟨u, h1, _, rfl⟩ := (g.to.1 x).1 hx; exact hin _ h1
end Go.Proofs.Ytmmjecopcjkeaaa
