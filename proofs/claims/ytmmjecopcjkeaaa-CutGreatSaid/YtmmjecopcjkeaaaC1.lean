/- Flow through a net, plainly: as much as flows, the cut weighs. -/
import Derived.Test.YtmmjecopcjkeaaaA11
namespace Go.Proofs.Ytmmjecopcjkeaaa
set_option linter.unusedVariables false
set_option linter.unusedSimpArgs false
open Go Go.RowKit

/-- A way of the flow: from u to v, at most c. -/
structure Fa where
  u : Nat
  v : Nat
  c : Int
/-- What flows out of the places where χ is 1 (and into others), less what flows back. -/
def dvg (χ : Nat → Int) : List Fa → List Int → Int
  | a :: E, x :: f => x * (χ a.u - χ a.v) + dvg χ E f
  | _, _ => 0
theorem dvg_app {χ : Nat → Int} : ∀ {E1 E2 : List Fa} {f1 f2 : List Int}, f1.length = E1.length → dvg χ (E1 ++ E2) (f1 ++ f2) = dvg χ E1 f1 + dvg χ E2 f2
  | [], E2, [], f2, _ => by simp [dvg]
  | a :: E1, E2, x :: f1, f2, h => by
    have := dvg_app (χ := χ) (E1 := E1) (E2 := E2) (f1 := f1) (f2 := f2) (by simpa using h)
    simp only [List.cons_append, dvg, this]; omega
theorem dvg_set {χ : Nat → Int} {y : Int} : ∀ {E : List Fa} {f : List Int} {i : Nat} (hi : i < E.length) (hf : i < f.length), dvg χ E (f.set i y) = dvg χ E f + (y - f[i]) * (χ E[i].u - χ E[i].v)
  | a :: E, x :: f, 0, _, _ => by
    simp only [List.set_cons_zero, dvg, List.getElem_cons_zero, Int.sub_mul]; omega
  | a :: E, x :: f, i + 1, hi, hf => by
    have := dvg_set (χ := χ) (y := y) (E := E) (f := f) (i := i) (by simpa using hi) (by simpa using hf)
    simp only [List.set_cons_succ, dvg, List.getElem_cons_succ, this]; omega
/-- Each way's share is at most so much. -/
theorem dvg_le {χ : Nat → Int} : ∀ {E : List Fa} {f k : List Int}, f.length = E.length → k.length = E.length → (∀ i (h : i < E.length) (hf : i < f.length) (hk : i < k.length), f[i] * (χ E[i].u - χ E[i].v) ≤ k[i]) → dvg χ E f ≤ k.sum
  | [], [], [], _, _, _ => by simp [dvg]
  | a :: E, x :: f, y :: k, h1, h2, h => by
    have i1 := dvg_le (χ := χ) (E := E) (f := f) (k := k) (by simpa using h1) (by simpa using h2) (fun i a b c => by
      have := h (i + 1) (by simpa using a) (by simpa using b) (by simpa using c)
      simpa using this)
    have i2 := h 0 (by simp) (by simp) (by simp)
    simp only [List.getElem_cons_zero] at i2
    simp only [dvg, List.sum_cons]; omega
theorem dvg_ge {χ : Nat → Int} : ∀ {E : List Fa} {f k : List Int}, f.length = E.length → k.length = E.length → (∀ i (h : i < E.length) (hf : i < f.length) (hk : i < k.length), k[i] ≤ f[i] * (χ E[i].u - χ E[i].v)) → k.sum ≤ dvg χ E f
  | [], [], [], _, _, _ => by simp [dvg]
  | a :: E, x :: f, y :: k, h1, h2, h => by
    have i1 := dvg_ge (χ := χ) (E := E) (f := f) (k := k) (by simpa using h1) (by simpa using h2) (fun i a b c => by
      have := h (i + 1) (by simpa using a) (by simpa using b) (by simpa using c)
      simpa using this)
    have i2 := h 0 (by simp) (by simp) (by simp)
    simp only [List.getElem_cons_zero] at i2
    simp only [dvg, List.sum_cons]; omega
theorem dvg_nonpos {χ : Nat → Int} {E : List Fa} {f : List Int} (hl : f.length = E.length) (h : ∀ i (h : i < E.length) (hf : i < f.length), f[i] * (χ E[i].u - χ E[i].v) ≤ 0) : dvg χ E f ≤ 0 := by
  have := dvg_le (χ := χ) (E := E) (f := f) (k := List.replicate E.length 0) hl (by simp) (fun i a b c => by simpa using h i a b)
  have h0 : (List.replicate E.length (0 : Int)).sum = 0 := by
    generalize E.length = n
    induction n with
    | zero => rfl
    | succ n ih => rw [List.replicate_succ, List.sum_cons, ih]; rfl
  omega
theorem dvg_nonneg {χ : Nat → Int} {E : List Fa} {f : List Int} (hl : f.length = E.length) (h : ∀ i (h : i < E.length) (hf : i < f.length), 0 ≤ f[i] * (χ E[i].u - χ E[i].v)) : 0 ≤ dvg χ E f := by
  have := dvg_ge (χ := χ) (E := E) (f := f) (k := List.replicate E.length 0) hl (by simp) (fun i a b c => by simpa using h i a b)
  have h0 : (List.replicate E.length (0 : Int)).sum = 0 := by
    generalize E.length = n
    induction n with
    | zero => rfl
    | succ n ih => rw [List.replicate_succ, List.sum_cons, ih]; rfl
  omega

/-- One share is as small as y, the others are at most nothing. -/
theorem dvg_one {χ : Nat → Int} {y : Int} : ∀ {E : List Fa} {f : List Int} {j : Nat} (hl : f.length = E.length) (hj : j < E.length) (hy : f[j] * (χ E[j].u - χ E[j].v) ≤ y) (h : ∀ i (h : i < E.length) (hf : i < f.length), f[i] * (χ E[i].u - χ E[i].v) ≤ 0), dvg χ E f ≤ y
  | a :: E, x :: f, 0, hl, hj, hy, h => by
    have i1 := dvg_nonpos (χ := χ) (E := E) (f := f) (by simpa using hl) (fun i a b => by
      have := h (i + 1) (by simpa using a) (by simpa using b)
      simpa using this)
    simp only [List.getElem_cons_zero] at hy
    simp only [dvg]; omega
  | a :: E, x :: f, j + 1, hl, hj, hy, h => by
    have i1 := dvg_one (χ := χ) (y := y) (E := E) (f := f) (j := j) (by simpa using hl) (by simpa using hj) (by simpa using hy) (fun i a b => by
      have := h (i + 1) (by simpa using a) (by simpa using b)
      simpa using this)
    have i2 := h 0 (by simp) (by simp)
    simp only [List.getElem_cons_zero] at i2
    simp only [dvg]; omega

/-! ### nets -/
/-- A net: weights, ways, where they begin, where they end. -/
structure Nt where
  ws : List Int
  wy : List (Nat × Nat)
  fr : List Nat
  to : List Nat
def much13 : Int := 1152921504606846976
def ndE : Nat → List Int → List Fa
  | _, [] => []
  | v, w :: ws => ⟨2 * v, 2 * v + 1, w⟩ :: ndE (v + 1) ws
def wyE (n : Nat) (wy : List (Nat × Nat)) (fr to : List Nat) : List Fa := wy.map (fun p => ⟨2 * p.1 + 1, 2 * p.2, much13⟩) ++ (fr.map (fun v => ⟨2 * n, 2 * v, much13⟩) ++ to.map fun v => ⟨2 * v + 1, 2 * n + 1, much13⟩)
def Nt.E (n : Nt) : List Fa := ndE 0 n.ws ++ wyE n.ws.length n.wy n.fr n.to
structure Nt.Ok (n : Nt) : Prop where
  w : ∀ w ∈ n.ws, 1 ≤ w ∧ w ≤ 1073741824
  l : n.ws.length ≤ 2000
  wy : ∀ p ∈ n.wy, p.1 < n.ws.length ∧ p.2 < n.ws.length
  fr : ∀ v ∈ n.fr, v < n.ws.length
  to : ∀ v ∈ n.to, v < n.ws.length
theorem ndE_len : ∀ {v : Nat} {ws : List Int}, (ndE v ws).length = ws.length
  | _, [] => rfl
  | v, w :: ws => by simp [ndE, ndE_len (v := v + 1)]
theorem ndE_get : ∀ {v : Nat} {ws : List Int} {i : Nat} (h : i < ws.length), (ndE v ws)[i]'(by rw [ndE_len]; exact h) = ⟨2 * (v + i), 2 * (v + i) + 1, ws[i]⟩
  | v, w :: ws, 0, _ => rfl
  | v, w :: ws, i + 1, h => by
    have := ndE_get (v := v + 1) (ws := ws) (i := i) (by simpa using h)
    simp only [ndE, List.getElem_cons_succ, this]
    congr 1 <;> omega
/-- Come to from the beginnings, not through D. -/
inductive Come (n : Nt) (D : Nat → Bool) : Nat → Prop
  | fr {v : Nat} : v ∈ n.fr → D v = false → Come n D v
  | wy {a b : Nat} : Come n D a → (a, b) ∈ n.wy → D b = false → Come n D b
def Cut (n : Nt) (D : Nat → Bool) : Prop := ∀ v ∈ n.to, ¬ Come n D v
def wgt : Nat → List Int → (Nat → Bool) → Int
  | _, [], _ => 0
  | v, w :: ws, D => (bif D v then w else 0) + wgt (v + 1) ws D
def wgtL : Nat → List Int → (Nat → Bool) → List Int
  | _, [], _ => []
  | v, w :: ws, D => (bif D v then w else 0) :: wgtL (v + 1) ws D
theorem wgtL_sum : ∀ {v : Nat} {ws : List Int} {D : Nat → Bool}, (wgtL v ws D).sum = wgt v ws D
  | _, [], _ => rfl
  | v, w :: ws, D => by simp only [wgtL, List.sum_cons, wgt, wgtL_sum (v := v + 1)]
theorem wgtL_len : ∀ {v : Nat} {ws : List Int} {D : Nat → Bool}, (wgtL v ws D).length = ws.length
  | _, [], _ => rfl
  | v, w :: ws, D => by simp [wgtL, wgtL_len (v := v + 1)]
theorem wgtL_get : ∀ {v : Nat} {ws : List Int} {D : Nat → Bool} {i : Nat} (h : i < ws.length), (wgtL v ws D)[i]'(by rw [wgtL_len]; exact h) = bif D (v + i) then ws[i] else 0
  | v, w :: ws, D, 0, _ => rfl
  | v, w :: ws, D, i + 1, h => by
    have := wgtL_get (v := v + 1) (ws := ws) (D := D) (i := i) (by simpa using h)
    simp only [wgtL, List.getElem_cons_succ, this]
    rw [show v + 1 + i = v + (i + 1) by omega]
theorem wgt_all_le {ws : List Int} : ∀ {v : Nat} (D : Nat → Bool), (∀ w ∈ ws, 1 ≤ w ∧ w ≤ 1073741824) → 0 ≤ wgt v ws D ∧ wgt v ws D ≤ 1073741824 * ws.length := by
  induction ws with
  | nil => intro v D _; simp [wgt]
  | cons w ws ih =>
    intro v D h
    have h1 := ih (v := v + 1) D fun w hw => h w (by simp [hw])
    have h2 := h w (by simp)
    simp only [wgt, List.length_cons]
    cases D v <;> simp only [cond_true, cond_false] <;> omega

/-- What flows: within bounds, and as much out of the first as into the last. -/
structure Flows (n : Nt) (f : List Int) (val : Int) : Prop where
  len : f.length = n.E.length
  lo : ∀ i (h : i < f.length), 0 ≤ f[i]
  hi : ∀ i (h : i < f.length) (h2 : i < n.E.length), f[i] ≤ n.E[i].c
  cons : ∀ χ : Nat → Int, dvg χ n.E f = val * (χ (2 * n.ws.length) - χ (2 * n.ws.length + 1))
theorem wyE_cases {n : Nt} (hn : n.Ok) {a : Fa} (ha : a ∈ wyE n.ws.length n.wy n.fr n.to) : a.c = much13 ∧ ((∃ p ∈ n.wy, a.u = 2 * p.1 + 1 ∧ a.v = 2 * p.2) ∨ (∃ v ∈ n.fr, a.u = 2 * n.ws.length ∧ a.v = 2 * v) ∨ ∃ v ∈ n.to, a.u = 2 * v + 1 ∧ a.v = 2 * n.ws.length + 1) := by
  unfold wyE at ha
  rcases List.mem_append.1 ha with h | h
  · obtain ⟨p, hp, rfl⟩ := List.mem_map.1 h
    exact ⟨rfl, .inl ⟨p, hp, rfl, rfl⟩⟩
  · rcases List.mem_append.1 h with h | h
    · obtain ⟨p, hp, rfl⟩ := List.mem_map.1 h
      exact ⟨rfl, .inr (.inl ⟨p, hp, rfl, rfl⟩)⟩
    · obtain ⟨p, hp, rfl⟩ := List.mem_map.1 h
      exact ⟨rfl, .inr (.inr ⟨p, hp, rfl, rfl⟩)⟩
theorem Nt.E_nd {n : Nt} {i : Nat} (h : i < n.ws.length) (h2 : i < n.E.length) : n.E[i] = ⟨2 * i, 2 * i + 1, n.ws[i]⟩ := by
  have e : n.E[i]? = some ⟨2 * i, 2 * i + 1, n.ws[i]⟩ := by
    unfold Nt.E
    rw [List.getElem?_append_left (by rw [ndE_len]; exact h), List.getElem?_eq_getElem (by rw [ndE_len]; exact h), ndE_get h, Nat.zero_add]
  exact (List.getElem?_eq_some_iff.1 e).2
theorem Nt.E_len {n : Nt} : n.E.length = n.ws.length + (wyE n.ws.length n.wy n.fr n.to).length := by unfold Nt.E; rw [List.length_append, ndE_len]
theorem Nt.E_wy {n : Nt} {i : Nat} (h2 : i < (wyE n.ws.length n.wy n.fr n.to).length) (h3 : n.ws.length + i < n.E.length) : n.E[n.ws.length + i] = (wyE n.ws.length n.wy n.fr n.to)[i] := by
  have e : n.E[n.ws.length + i]? = some (wyE n.ws.length n.wy n.fr n.to)[i] := by
    unfold Nt.E
    rw [List.getElem?_append_right (by rw [ndE_len]; omega), ndE_len, Nat.add_sub_cancel_left, List.getElem?_eq_getElem h2]
  exact (List.getElem?_eq_some_iff.1 e).2
theorem Nt.E_wy' {n : Nt} {i : Nat} (hge : n.ws.length ≤ i) (h3 : i < n.E.length) : ∃ h2 : i - n.ws.length < (wyE n.ws.length n.wy n.fr n.to).length, n.E[i] = (wyE n.ws.length n.wy n.fr n.to)[i - n.ws.length] := by
  have h2 : i - n.ws.length < (wyE n.ws.length n.wy n.fr n.to).length := by rw [Nt.E_len] at h3; omega
  have := Nt.E_wy h2 (by rw [Nt.E_len]; omega)
  refine ⟨h2, ?_⟩
  rw [← this]
  congr 1; omega
theorem Flows.split {n : Nt} {f : List Int} {val : Int} (h : Flows n f val) : ∃ f1 f2, f = f1 ++ f2 ∧ f1.length = n.ws.length ∧ f2.length = (wyE n.ws.length n.wy n.fr n.to).length ∧
    (∀ i (h1 : i < f1.length) (h2 : i < n.ws.length), 0 ≤ f1[i] ∧ f1[i] ≤ n.ws[i]) ∧ (∀ i (h1 : i < f2.length), 0 ≤ f2[i]) ∧ ∀ χ : Nat → Int, dvg χ (ndE 0 n.ws) f1 + dvg χ (wyE n.ws.length n.wy n.fr n.to) f2 = val * (χ (2 * n.ws.length) - χ (2 * n.ws.length + 1)) := by
  have hl := h.len
  unfold Nt.E at hl
  rw [List.length_append, ndE_len] at hl
  refine ⟨f.take n.ws.length, f.drop n.ws.length, (List.take_append_drop _ _).symm, by simp; omega, by simp; omega, fun i h1 h2 => ?_, fun i h1 => ?_, fun χ => ?_⟩
  · have h3 : i < f.length := by simp at h1; omega
    have h4 : i < n.E.length := by rw [← h.len]; exact h3
    rw [List.getElem_take]
    refine ⟨h.lo i h3, ?_⟩
    have := h.hi i h3 h4
    rw [Nt.E_nd h2] at this
    exact this
  · rw [List.getElem_drop]
    exact h.lo _ _
  · rw [← h.cons χ, ← dvg_app (by simp [ndE_len]; omega), List.take_append_drop]; rfl

theorem mul01 {x c d : Int} (hx : 0 ≤ x) (hd : d ≤ 0) : x * d ≤ 0 := by
  have := Int.mul_le_mul_of_nonneg_left hd hx
  simpa using this
/-- No cut weighs less than what flows. -/
theorem Flows.le_cut {n : Nt} {f : List Int} {val : Int} (hn : n.Ok) (h : Flows n f val) {D : Nat → Bool} (hD : Cut n D) : val ≤ wgt 0 n.ws D := by
  classical
  obtain ⟨f1, f2, rfl, l1, l2, b1, b2, hc⟩ := h.split
  let inn : Nat → Prop := fun v => v ∈ n.fr ∨ ∃ a, Come n D a ∧ (a, v) ∈ n.wy
  let χ : Nat → Int := fun x => if x = 2 * n.ws.length then 1 else if x = 2 * n.ws.length + 1 then 0 else if x % 2 = 0 then (if inn (x / 2) then 1 else 0) else (if Come n D (x / 2) then 1 else 0)
  have hS : χ (2 * n.ws.length) = 1 := by simp [χ]
  have hT : χ (2 * n.ws.length + 1) = 0 := by simp [χ]
  have hev : ∀ v, v < n.ws.length → χ (2 * v) = if inn v then 1 else 0 := fun v hv => by
    have e1 : ¬ 2 * v = 2 * n.ws.length := by omega
    have e2 : ¬ 2 * v = 2 * n.ws.length + 1 := by omega
    have e3 : 2 * v % 2 = 0 := by omega
    have e4 : 2 * v / 2 = v := by omega
    simp only [χ, e1, e2, e3, e4, if_false, if_true]
  have hod : ∀ v, v < n.ws.length → χ (2 * v + 1) = if Come n D v then 1 else 0 := fun v hv => by
    have e1 : ¬ 2 * v + 1 = 2 * n.ws.length := by omega
    have e2 : ¬ 2 * v + 1 = 2 * n.ws.length + 1 := by omega
    have e3 : ¬ (2 * v + 1) % 2 = 0 := by omega
    have e4 : (2 * v + 1) / 2 = v := by omega
    simp only [χ, e1, e2, e3, e4, if_false]
  have hin : ∀ v, Come n D v → inn v ∧ D v = false := by
    intro v hv
    cases hv with
    | fr h1 h2 => exact ⟨.inl h1, h2⟩
    | wy h1 h2 h3 => exact ⟨.inr ⟨_, h1, h2⟩, h3⟩
  have hout : ∀ v, inn v → D v = false → Come n D v := by
    rintro v (h1 | ⟨a, h1, h2⟩) h3
    · exact .fr h1 h3
    · exact .wy h1 h2 h3
  have := hc χ
  rw [hS, hT] at this
  have k1 : dvg χ (ndE 0 n.ws) f1 ≤ (wgtL 0 n.ws D).sum := by
    refine dvg_le (by rw [ndE_len, l1]) (by rw [wgtL_len, ndE_len]) fun i h1 h2 h3 => ?_
    rw [ndE_len] at h1
    rw [ndE_get h1, wgtL_get h1, Nat.zero_add]
    show f1[i] * (χ (2 * i) - χ (2 * i + 1)) ≤ _
    rw [hev i h1, hod i h1]
    have hb := b1 i h2 h1
    by_cases hD' : D i = true
    · rw [hD', cond_true]
      by_cases hi : inn i <;> by_cases hco : Come n D i <;> simp only [hi, hco, if_true, if_false] <;> omega
    · have hD' : D i = false := by simpa using hD'
      rw [hD', cond_false]
      by_cases hi : inn i
      · have hco := hout i hi hD'
        simp only [hi, hco, if_true]; omega
      · have hco : ¬ Come n D i := fun hc => hi (hin i hc).1
        simp only [hi, hco, if_false]; omega
  have k2 : dvg χ (wyE n.ws.length n.wy n.fr n.to) f2 ≤ 0 := by
    refine dvg_nonpos l2 fun i h1 h2 => ?_
    have hb := b2 i h2
    obtain ⟨_, hk⟩ := wyE_cases hn (List.getElem_mem h1)
    refine mul01 (c := 0) hb ?_
    rcases hk with ⟨p, hp, e1, e2⟩ | ⟨v, hv, e1, e2⟩ | ⟨v, hv, e1, e2⟩
    · rw [e1, e2, hod _ (hn.wy p hp).1, hev _ (hn.wy p hp).2]
      by_cases hco : Come n D p.1
      · have : inn p.2 := .inr ⟨p.1, hco, hp⟩
        simp only [hco, this, if_true]; omega
      · simp only [hco, if_false]
        split <;> omega
    · rw [e1, e2, hS, hev v (hn.fr v hv)]
      have : inn v := .inl hv
      simp only [this, if_true]; omega
    · rw [e1, e2, hT, hod v (hn.to v hv)]
      have : ¬ Come n D v := hD v hv
      simp only [this, if_false]; omega
  rw [wgtL_sum] at k1
  omega
theorem Flows.le_all {n : Nt} {f : List Int} {val : Int} (hn : n.Ok) (h : Flows n f val) : val ≤ 1073741824 * n.ws.length := by
  have h1 := h.le_cut hn (D := fun _ => true) (fun v hv hc => by cases hc with
    | fr _ h => cases h
    | wy _ _ h => cases h)
  have := (wgt_all_le (v := 0) (ws := n.ws) (fun _ => true) hn.w).2
  omega
/-- Into a place no more flows than it weighs. -/
theorem Flows.in_le {n : Nt} {f : List Int} {val : Int} (hn : n.Ok) (h : Flows n f val) {i : Nat} (hi : i < f.length) (hi2 : i < n.E.length) {b : Nat} (hb : b < n.ws.length) (hv : n.E[i].v = 2 * b) : f[i] ≤ 1073741824 := by
  by_cases hin : i < n.ws.length
  · exfalso
    rw [Nt.E_nd hin] at hv
    dsimp only at hv
    omega
  obtain ⟨f1, f2, rfl, l1, l2, b1, b2, hc⟩ := h.split
  let χ : Nat → Int := fun x => if x = 2 * b then 1 else 0
  have := hc χ
  have hS : χ (2 * n.ws.length) = 0 := by simp [χ]; omega
  have hT : χ (2 * n.ws.length + 1) = 0 := by simp [χ]; omega
  rw [hS, hT] at this
  have k1 : dvg χ (ndE 0 n.ws) f1 ≤ (wgtL 0 n.ws (fun v => decide (v = b))).sum := by
    refine dvg_le (by rw [ndE_len, l1]) (by rw [wgtL_len, ndE_len]) fun i h1 h2 h3 => ?_
    rw [ndE_len] at h1
    rw [ndE_get h1, wgtL_get h1, Nat.zero_add]
    show f1[i] * (χ (2 * i) - χ (2 * i + 1)) ≤ _
    have hbb := b1 i h2 h1
    have e2 : χ (2 * i + 1) = 0 := by simp [χ]; omega
    rw [e2]
    by_cases hib : i = b
    · subst hib
      simp [χ]; exact hbb.2
    · have : χ (2 * i) = 0 := by simp [χ]; omega
      rw [this]; simp [hib]
  have kb : ∀ (v : Nat) (ws : List Int), (∀ w ∈ ws, 1 ≤ w ∧ w ≤ 1073741824) → wgt v ws (fun x => decide (x = b)) ≤ 1073741824 ∧ (b < v → wgt v ws (fun x => decide (x = b)) ≤ 0) := by
    intro v ws
    induction ws generalizing v with
    | nil => intro _; simp [wgt]
    | cons w ws ih =>
      intro hw
      have h1 := ih (v + 1) fun w h => hw w (by simp [h])
      have h2 := hw w (by simp)
      simp only [wgt]
      by_cases hvb : v = b
      · subst hvb
        have := h1.2 (by omega)
        simp; omega
      · simp only [hvb, decide_false, cond_false]
        exact ⟨by omega, fun hh => by have := h1.2 (by omega); omega⟩
  rw [wgtL_sum] at k1
  have hq := (kb 0 n.ws hn.w).1
  obtain ⟨hi2', eE⟩ := Nt.E_wy' (n := n) (by omega) hi2
  have ef : (f1 ++ f2)[i] = f2[i - n.ws.length]'(by omega) := by
    rw [List.getElem_append_right (by omega)]
    simp only [l1]
  rw [ef]
  rw [eE] at hv
  have k2 : dvg χ (wyE n.ws.length n.wy n.fr n.to) f2 ≤ - f2[i - n.ws.length]'(by omega) := by
    have sh : ∀ j (h1 : j < (wyE n.ws.length n.wy n.fr n.to).length) (h2 : j < f2.length), χ (wyE n.ws.length n.wy n.fr n.to)[j].u = 0 := fun j h1 h2 => by
      obtain ⟨_, hk⟩ := wyE_cases hn (List.getElem_mem h1)
      rcases hk with ⟨p, hp, e1, e2⟩ | ⟨v, hv, e1, e2⟩ | ⟨v, hv, e1, e2⟩
      · rw [e1]; simp [χ]; omega
      · rw [e1]; exact hS
      · rw [e1]; simp [χ]; omega
    refine dvg_one (j := i - n.ws.length) l2 hi2' ?_ fun j h1 h2 => ?_
    · rw [sh _ hi2' (by omega), hv]
      simp [χ]
    · rw [sh j h1 h2]
      refine mul01 (c := 0) (b2 j h2) ?_
      show 0 - (if _ then (1 : Int) else 0) ≤ 0
      split <;> omega
  omega
/-- Where no more can flow: the places that can be come to, and not left, cut, and weigh what flows. -/
theorem Flows.done {n : Nt} {f : List Int} {val : Int} (hn : n.Ok) (h : Flows n f val) {R : Nat → Prop} (hS : R (2 * n.ws.length)) (hT : ¬ R (2 * n.ws.length + 1))
    (hfw : ∀ i (h1 : i < f.length) (h2 : i < n.E.length), R n.E[i].u → f[i] < n.E[i].c → R n.E[i].v) (hbw : ∀ i (h1 : i < f.length) (h2 : i < n.E.length), R n.E[i].v → 0 < f[i] → R n.E[i].u)
    {C : Nat → Bool} (hC : ∀ v, v < n.ws.length → (C v = true ↔ R (2 * v) ∧ ¬ R (2 * v + 1))) : Cut n C ∧ wgt 0 n.ws C = val := by
  classical
  have hn' := h.le_all hn
  have hl2000 := hn.l
  -- ways of the net can always be gone
  have hwv : ∀ i (h2 : i < n.E.length), n.ws.length ≤ i → R n.E[i].u → R n.E[i].v := fun i h2 hge hu => by
    have h1 : i < f.length := by rw [h.len]; exact h2
    obtain ⟨hi2', eE⟩ := Nt.E_wy' (n := n) hge h2
    obtain ⟨hcm, hk⟩ := wyE_cases hn (List.getElem_mem hi2')
    rw [← eE] at hcm hk
    rcases hk with ⟨p, hp, e1, e2⟩ | ⟨v, hv, e1, e2⟩ | ⟨v, hv, e1, e2⟩
    · have := h.in_le hn h1 h2 (hn.wy p hp).2 e2
      exact hfw i h1 h2 hu (by rw [hcm]; unfold much13; omega)
    · have := h.in_le hn h1 h2 (hn.fr v hv) e2
      exact hfw i h1 h2 hu (by rw [hcm]; unfold much13; omega)
    · -- into the last: no more than all
      refine hfw i h1 h2 hu ?_
      obtain ⟨f1, f2, rfl, l1, l2, b1, b2, hc⟩ := h.split
      have hc := hc fun x => if x = 2 * n.ws.length + 1 then 1 else 0
      have hSx : ¬ 2 * n.ws.length = 2 * n.ws.length + 1 := by omega
      simp only [hSx, if_false, if_true] at hc
      have k1 : dvg (fun x => if x = 2 * n.ws.length + 1 then (1 : Int) else 0) (ndE 0 n.ws) f1 ≤ 0 := by
        refine dvg_nonpos (by rw [ndE_len, l1]) fun j g1 g2 => ?_
        rw [ndE_len] at g1
        rw [ndE_get g1]
        have q1 : ¬ 2 * (0 + j) = 2 * n.ws.length + 1 := by omega
        have q2 : ¬ 2 * (0 + j) + 1 = 2 * n.ws.length + 1 := by omega
        simp only [q1, q2, if_false]; omega
      have ef : (f1 ++ f2)[i] = f2[i - n.ws.length]'(by omega) := by
        rw [List.getElem_append_right (by omega)]
        simp only [l1]
      have k2 : dvg (fun x => if x = 2 * n.ws.length + 1 then (1 : Int) else 0) (wyE n.ws.length n.wy n.fr n.to) f2 ≤ - f2[i - n.ws.length]'(by omega) := by
        have sh : ∀ j (g1 : j < (wyE n.ws.length n.wy n.fr n.to).length), ¬ (wyE n.ws.length n.wy n.fr n.to)[j].u = 2 * n.ws.length + 1 := fun j g1 => by
          obtain ⟨_, hk⟩ := wyE_cases hn (List.getElem_mem g1)
          rcases hk with ⟨p, hp, e1, e2⟩ | ⟨v, hv, e1, e2⟩ | ⟨v, hv, e1, e2⟩
          · have := (hn.wy p hp).1
            rw [e1]; omega
          · rw [e1]; omega
          · have := hn.to v hv
            rw [e1]; omega
        refine dvg_one (j := i - n.ws.length) l2 hi2' ?_ fun j g1 g2 => ?_
        · rw [← eE] 
          have := sh _ hi2'
          rw [← eE] at this
          simp only [this, if_false, e2, if_true]; omega
        · simp only [sh j g1, if_false]
          refine mul01 (c := 0) (b2 j g2) ?_
          split <;> omega
      rw [ef, hcm]
      unfold much13
      omega
  have hnd : ∀ v (hv : v < n.ws.length), ∃ (h2 : v < n.E.length), n.E[v] = ⟨2 * v, 2 * v + 1, n.ws[v]⟩ := fun v hv => by
    exact ⟨by rw [Nt.E_len]; omega, Nt.E_nd hv _⟩
  have hmem : ∀ a ∈ wyE n.ws.length n.wy n.fr n.to, ∃ i, ∃ (h2 : i < n.E.length), n.ws.length ≤ i ∧ n.E[i] = a := fun a ha => by
    obtain ⟨i, hi, rfl⟩ := List.mem_iff_getElem.1 ha
    exact ⟨n.ws.length + i, by rw [Nt.E_len]; omega, by omega, Nt.E_wy hi _⟩
  have hgo : ∀ v, v < n.ws.length → C v = false → R (2 * v) → R (2 * v + 1) := fun v hv hc hr => by
    apply Classical.byContradiction
    intro hno
    rw [(hC v hv).2 ⟨hr, hno⟩] at hc
    cases hc
  have hcome : ∀ v, Come n C v → v < n.ws.length ∧ R (2 * v + 1) := by
    intro v hv
    induction hv with
    | @fr v h1 h2 =>
      obtain ⟨i, h3, h4, h5⟩ := hmem ⟨2 * n.ws.length, 2 * v, much13⟩ (by
        unfold wyE; exact List.mem_append_right _ (List.mem_append_left _ (List.mem_map.2 ⟨v, h1, rfl⟩)))
      have := hwv i h3 h4 (by rw [h5]; exact hS)
      rw [h5] at this
      exact ⟨hn.fr v h1, hgo v (hn.fr v h1) h2 this⟩
    | @wy a b h1 h2 h3 ih =>
      obtain ⟨i, g3, g4, g5⟩ := hmem ⟨2 * a + 1, 2 * b, much13⟩ (by
        unfold wyE; exact List.mem_append_left _ (List.mem_map.2 ⟨(a, b), h2, rfl⟩))
      have := hwv i g3 g4 (by rw [g5]; exact ih.2)
      rw [g5] at this
      exact ⟨(hn.wy _ h2).2, hgo b (hn.wy _ h2).2 h3 this⟩
  have hcut : Cut n C := fun v hv hc => by
    obtain ⟨_, hr⟩ := hcome v hc
    obtain ⟨i, g3, g4, g5⟩ := hmem ⟨2 * v + 1, 2 * n.ws.length + 1, much13⟩ (by
      unfold wyE; exact List.mem_append_right _ (List.mem_append_right _ (List.mem_map.2 ⟨v, hv, rfl⟩)))
    have := hwv i g3 g4 (by rw [g5]; exact hr)
    rw [g5] at this
    exact hT this
  refine ⟨hcut, Int.le_antisymm ?_ (h.le_cut hn hcut)⟩
  have hfw' := hfw
  have hbw' := hbw
  have hlenE := h.len
  have hlenf := h.len
  obtain ⟨f1, f2, rfl, l1, l2, b1, b2, hc⟩ := h.split
  have hc := hc fun x => if R x then 1 else 0
  simp only [hS, hT, if_true, if_false] at hc
  have k1 : (wgtL 0 n.ws C).sum ≤ dvg (fun x => if R x then (1 : Int) else 0) (ndE 0 n.ws) f1 := by
    refine dvg_ge (by rw [ndE_len, l1]) (by rw [wgtL_len, ndE_len]) fun i h1 h2 h3 => ?_
    rw [ndE_len] at h1
    rw [ndE_get h1, wgtL_get h1, Nat.zero_add]
    dsimp only
    obtain ⟨h4, h5⟩ := hnd i h1
    have ef : (f1 ++ f2)[i]'(by rw [hlenf]; exact h4) = f1[i] := List.getElem_append_left _
    have hb := b1 i h2 h1
    have hq1 := hfw i (by rw [hlenf]; exact h4) h4
    have hq2 := hbw i (by rw [hlenf]; exact h4) h4
    rw [h5, ef] at hq1 hq2
    dsimp only at hq1 hq2
    by_cases ha : R (2 * i) <;> by_cases hbb : R (2 * i + 1)
    · have : C i = false := by
        cases hci : C i with
        | false => rfl
        | true => exact absurd hbb ((hC i h1).1 hci).2
      rw [this]; simp only [ha, hbb, if_true, cond_false]; omega
    · have : C i = true := (hC i h1).2 ⟨ha, hbb⟩
      rw [this]; simp only [ha, hbb, if_true, if_false, cond_true]
      have : ¬ f1[i] < n.ws[i] := fun hlt => hbb (hq1 ha hlt)
      omega
    · have : C i = false := by
        cases hci : C i with
        | false => rfl
        | true => exact absurd ((hC i h1).1 hci).1 ha
      rw [this]; simp only [ha, hbb, if_true, if_false, cond_false]
      have : ¬ 0 < f1[i] := fun hlt => ha (hq2 hbb hlt)
      omega
    · have : C i = false := by
        cases hci : C i with
        | false => rfl
        | true => exact absurd ((hC i h1).1 hci).1 ha
      rw [this]; simp only [ha, hbb, if_false, cond_false]; omega
  have k2 : 0 ≤ dvg (fun x => if R x then (1 : Int) else 0) (wyE n.ws.length n.wy n.fr n.to) f2 := by
    refine dvg_nonneg l2 fun i h1 h2 => ?_
    have h4 : n.ws.length + i < n.E.length := by rw [Nt.E_len]; omega
    have h5 : n.E[n.ws.length + i] = (wyE n.ws.length n.wy n.fr n.to)[i] := Nt.E_wy h1 h4
    have ef : (f1 ++ f2)[n.ws.length + i]'(by rw [hlenf]; exact h4) = f2[i] := by
      rw [List.getElem_append_right (by omega)]
      simp only [l1, Nat.add_sub_cancel_left]
    have hq1 := hwv (n.ws.length + i) h4 (by omega)
    have hq2 := hbw (n.ws.length + i) (by rw [hlenf]; exact h4) h4
    rw [h5] at hq1
    rw [h5, ef] at hq2
    have hb := b2 i h2
    by_cases ha : R (wyE n.ws.length n.wy n.fr n.to)[i].u <;> by_cases hbb : R (wyE n.ws.length n.wy n.fr n.to)[i].v
    · simp only [ha, hbb, if_true]; omega
    · exact absurd (hq1 ha) hbb
    · simp only [ha, hbb, if_true, if_false]
      have : ¬ 0 < f2[i] := fun hlt => ha (hq2 hbb hlt)
      have : f2[i] = 0 := by omega
      rw [this]; omega
    · simp only [ha, hbb, if_false]; omega
  rw [wgtL_sum] at k1
  omega
end Go.Proofs.Ytmmjecopcjkeaaa
