/- CutMore. -/
import Derived.Test.YtmmjecopcjkeaaaC14
namespace Go.Proofs.Ytmmjecopcjkeaaa
set_option linter.unusedVariables false
set_option linter.unusedSimpArgs false
open Go Go.RowKit

theorem Come.mono13 {n n' : Nt} {D : Nat → Bool} (hf : ∀ v ∈ n.fr, v ∈ n'.fr) (hw : ∀ p ∈ n.wy, p ∈ n'.wy) {v : Nat} (h : Come n D v) : Come n' D v := by
  induction h with
  | fr h1 h2 => exact .fr (hf _ h1) h2
  | wy h1 h2 h3 ih => exact .wy ih (hw _ h2) h3
theorem Cut.mono13 {n n' : Nt} {D : Nat → Bool} (h : Cut n' D) (hf : ∀ v ∈ n.fr, v ∈ n'.fr) (hw : ∀ p ∈ n.wy, p ∈ n'.wy) (ht : ∀ v ∈ n.to, v ∈ n'.to) : Cut n D := fun v hv hc => h v (ht v hv) (hc.mono13 hf hw)
theorem wgt_mono13 : ∀ {ws ws' : List Int} {v : Nat} {D : Nat → Bool}, ws.length = ws'.length → (∀ i, nth ws i ≤ nth ws' i) → wgt v ws D ≤ wgt v ws' D
  | [], [], _, _, _, _ => Int.le_refl _
  | [], _ :: _, _, _, h, _ => by simp at h
  | _ :: _, [], _, _, h, _ => by simp at h
  | a :: ws, b :: ws', v, D, h, hl => by
    have h0 : a ≤ b := hl 0
    have ih := wgt_mono13 (ws := ws) (ws' := ws') (v := v + 1) (D := D) (by simpa using h) fun i => hl (i + 1)
    simp only [wgt]
    cases D v <;> simp <;> omega
/-- A net that is right, not too great, and all of whose cuts weigh W at least. -/
structure Gr13 (W : Int) (x : CutNet) : Prop where
  rg : rightN x = true
  fr : x.fFrom.xs.length ≤ 10000
  to : x.fTo.xs.length ≤ 10000
  wy : x.fWays.xs.length ≤ 10000
  wl : x.fWeights.xs.length ≤ 60
  ge : ∀ D, Cut (ntOf x) D → W ≤ wgt 0 x.fWeights.xs D
theorem rightN_parts {n : CutNet} : rightN n = true ↔ (∀ w ∈ n.fWeights.xs, wOk w = true) ∧ (∀ w ∈ n.fWays.xs, inB n w.a = true ∧ inB n w.b = true) ∧ (∀ v ∈ n.fFrom.xs, inB n v = true) ∧ (∀ v ∈ n.fTo.xs, inB n v = true) ∧ n.fWeights.xs.length ≤ 2000 := by
  unfold rightN
  simp only [Bool.and_eq_true, List.all_eq_true, decide_eq_true_eq, List.mem_append]
  constructor
  · rintro ⟨⟨⟨h1, h2⟩, h3⟩, h4⟩
    exact ⟨h1, h2, fun v hv => h3 v (.inl hv), fun v hv => h3 v (.inr hv), h4⟩
  · rintro ⟨h1, h2, h3, h4, h5⟩
    exact ⟨⟨⟨h1, h2⟩, fun v hv => hv.elim (h3 v) (h4 v)⟩, h5⟩
section
variable {n : CutNet} {W : Int} {i j : Nat} {A : Option Addr} {c : Nat}
theorem inB_of (hi : i < n.fWeights.xs.length) : inB n (i : Int) = true := decide_eq_true (by omega)
theorem Gr13.from (h : Gr13 W n) (hf : n.fFrom.xs.length ≤ 20) (hi : i < n.fWeights.xs.length) : Gr13 W ⟨n.fWeights, n.fWays, ⟨A, c, n.fFrom.xs ++ [(i : Int)]⟩, n.fTo⟩ := by
  obtain ⟨h1, h2, h3, h4, h5⟩ := rightN_parts.1 h.rg
  refine ⟨rightN_parts.2 ⟨h1, h2, fun v hv => ?_, h4, h5⟩, by show (n.fFrom.xs ++ [_]).length ≤ _; simp; omega, h.to, h.wy, h.wl, fun D hD => h.ge D (hD.mono13 (fun v hv => ?_) (fun _ hp => hp) fun _ hv => hv)⟩
  · rcases List.mem_append.1 hv with hv | hv
    · exact h3 v hv
    · rw [List.mem_singleton] at hv
      subst hv; exact inB_of hi
  · show v ∈ (n.fFrom.xs ++ [(i : Int)]).map Int.toNat
    rw [List.map_append]; exact List.mem_append_left _ hv
theorem Gr13.to' (h : Gr13 W n) (hf : n.fTo.xs.length ≤ 20) (hi : i < n.fWeights.xs.length) : Gr13 W ⟨n.fWeights, n.fWays, n.fFrom, ⟨A, c, n.fTo.xs ++ [(i : Int)]⟩⟩ := by
  obtain ⟨h1, h2, h3, h4, h5⟩ := rightN_parts.1 h.rg
  refine ⟨rightN_parts.2 ⟨h1, h2, h3, fun v hv => ?_, h5⟩, h.fr, by show (n.fTo.xs ++ [_]).length ≤ _; simp; omega, h.wy, h.wl, fun D hD => h.ge D (hD.mono13 (fun _ hv => hv) (fun _ hp => hp) fun v hv => ?_)⟩
  · rcases List.mem_append.1 hv with hv | hv
    · exact h4 v hv
    · rw [List.mem_singleton] at hv
      subst hv; exact inB_of hi
  · show v ∈ (n.fTo.xs ++ [(i : Int)]).map Int.toNat
    rw [List.map_append]; exact List.mem_append_left _ hv
theorem Gr13.way (h : Gr13 W n) (hf : n.fWays.xs.length ≤ 60) (hi : i < n.fWeights.xs.length) (hj : j < n.fWeights.xs.length) : Gr13 W ⟨n.fWeights, ⟨A, c, n.fWays.xs ++ [⟨(i : Int), (j : Int)⟩]⟩, n.fFrom, n.fTo⟩ := by
  obtain ⟨h1, h2, h3, h4, h5⟩ := rightN_parts.1 h.rg
  refine ⟨rightN_parts.2 ⟨h1, fun w hw => ?_, h3, h4, h5⟩, h.fr, h.to, by show (n.fWays.xs ++ [_]).length ≤ _; simp; omega, h.wl, fun D hD => h.ge D (hD.mono13 (fun _ hv => hv) (fun p hp => ?_) fun _ hv => hv)⟩
  · rcases List.mem_append.1 hw with hw | hw
    · exact h2 w hw
    · rw [List.mem_singleton] at hw
      subst hw; exact ⟨inB_of hi, inB_of hj⟩
  · show p ∈ (n.fWays.xs ++ [_]).map _
    rw [List.map_append]; exact List.mem_append_left _ hp
theorem Gr13.wgt (h : Gr13 W n) {ws : List Int} (hl : ws.length = n.fWeights.xs.length) (hw : ∀ w ∈ ws, wOk w = true) (hm : ∀ i, nth n.fWeights.xs i ≤ nth ws i) : Gr13 W ⟨⟨A, c, ws⟩, n.fWays, n.fFrom, n.fTo⟩ := by
  obtain ⟨h1, h2, h3, h4, h5⟩ := rightN_parts.1 h.rg
  have hin : ∀ v, inB ⟨⟨A, c, ws⟩, n.fWays, n.fFrom, n.fTo⟩ v = inB n v := fun v => by unfold inB; simp only [hl]
  have hwl := h.wl
  refine ⟨rightN_parts.2 ⟨hw, fun w hw => by rw [hin, hin]; exact h2 w hw, fun v hv => by rw [hin]; exact h3 v hv, fun v hv => by rw [hin]; exact h4 v hv, by show ws.length ≤ _; omega⟩, h.fr, h.to, h.wy, by show ws.length ≤ _; omega, fun D hD => Int.le_trans (h.ge D (hD.mono13 (fun _ hv => hv) (fun _ hp => hp) fun _ hv => hv)) (wgt_mono13 hl.symm hm)⟩
theorem Gr13.up (h : Gr13 W n) (hi : i < n.fWeights.xs.length) (hlt : nth n.fWeights.xs i < 1048576) : Gr13 W ⟨⟨A, c, n.fWeights.xs.set i (nth n.fWeights.xs i + 7)⟩, n.fWays, n.fFrom, n.fTo⟩ := by
  obtain ⟨h1, _⟩ := rightN_parts.1 h.rg
  refine h.wgt (by simp) (fun w hw => ?_) fun k => ?_
  · rcases List.mem_or_eq_of_mem_set hw with hw | rfl
    · exact h1 w hw
    · have := of_decide_eq_true (h1 _ (nth_mem hi))
      exact decide_eq_true (by omega)
  · rw [nth_set hi]
    split
    · rename_i e; subst e; omega
    · exact Int.le_refl _
end
theorem PSub.nrm {α : Type} [I : Enc α] {w0 : World} {f0 : FP} {L : List HP} {e : TypeId} {A : Option Addr} {l c : Nat} {xs' : List α} (xs : List α) (h : xs' = xs := by rfl) : PSub w0 f0 (own e A l c xs' :: L) (own e A xs.length c xs :: L) := fun w H => by
  subst h
  obtain ⟨g, hA, _⟩ := H.focus 0 rfl
  have := (own.len hA).1
  subst this
  exact H
theorem inL_lst {n : CutNet} {C : Nat → Bool} {v : Nat} (hv : v < n.fWeights.xs.length) : C v = inL (lst13 n C) v := by
  rw [Bool.eq_iff_iff]
  unfold inL
  rw [decide_eq_true_eq, mem_lst13]
  constructor
  · intro h; exact ⟨v, hv, h, rfl⟩
  · rintro ⟨u, _, h2, h3⟩
    have : u = v := by omega
    subst this; exact h2
section
variable {n : CutNet} {i j : Nat} {w0 w1 : World} {f0 f1 : FP} {L1 L2 : List HP} {A1 A2 A3 A4 : Option Addr} {c1 c2 c3 c4 l1 l2 l3 l4 : Nat} {p1 p2 p3 p4 : HP → List HP} {e1 e2 e3 e4 : TypeId} {ws : List Int}
theorem rd13 (C : Ctx w0 f0 L1 L2 w1 f1) (hR : RdD (okOf w0 f0) w0 n) (hi : i < 100) (hj : j < 100) (hw : ∀ w ∈ ws, wfi w)
    [h1 : Pc L2 A1 (own e1 A1 l1 c1 (n.fFrom.xs ++ [(i : Int)])) p1] [h2 : Pc L2 A2 (own e2 A2 l2 c2 (n.fTo.xs ++ [(j : Int)])) p2] [h3 : Pc L2 A3 (own e3 A3 l3 c3 (n.fWays.xs ++ [(⟨(i : Int), (j : Int)⟩ : Ar2 Int)])) p3] [h4 : Pc L2 A4 (own e4 A4 l4 c4 ws) p4] :
    ∀ x ∈ [(⟨n.fWeights, n.fWays, ⟨A1, c1, n.fFrom.xs ++ [(i : Int)]⟩, n.fTo⟩ : CutNet), ⟨n.fWeights, n.fWays, n.fFrom, ⟨A2, c2, n.fTo.xs ++ [(j : Int)]⟩⟩, ⟨n.fWeights, ⟨A3, c3, n.fWays.xs ++ [⟨(i : Int), (j : Int)⟩]⟩, n.fFrom, n.fTo⟩, ⟨⟨A4, c4, ws⟩, n.fWays, n.fFrom, n.fTo⟩], RdD (okOf w1 f1) w1 x := by
  have hn : RdD (okOf w1 f1) w1 n := C.rd hR
  have wi : wfi (i : Int) := ⟨by omega, by omega⟩
  have wj : wfi (j : Int) := ⟨by omega, by omega⟩
  have r1 : RdD (okOf w1 f1) w1 (⟨A1, c1, n.fFrom.xs ++ [(i : Int)]⟩ : Sl Int) := C.ownI A1 fun x hx => by
    rcases List.mem_append.1 hx with hx | hx
    · exact hn.h.2.2.1.2 x hx
    · rw [List.mem_singleton] at hx; subst hx; exact wi
  have r2 : RdD (okOf w1 f1) w1 (⟨A2, c2, n.fTo.xs ++ [(j : Int)]⟩ : Sl Int) := C.ownI A2 fun x hx => by
    rcases List.mem_append.1 hx with hx | hx
    · exact hn.h.2.2.2.2 x hx
    · rw [List.mem_singleton] at hx; subst hx; exact wj
  have r3 : RdD (okOf w1 f1) w1 (⟨A3, c3, n.fWays.xs ++ [⟨(i : Int), (j : Int)⟩]⟩ : Sl (Ar2 Int)) := C.ownI A3 fun x hx => by
    rcases List.mem_append.1 hx with hx | hx
    · exact hn.h.2.1.2 x hx
    · rw [List.mem_singleton] at hx; subst hx; exact ⟨wi, wj⟩
  have r4 : RdD (okOf w1 f1) w1 (⟨A4, c4, ws⟩ : Sl Int) := C.ownI A4 hw
  intro x hx
  simp only [List.mem_cons, List.not_mem_nil, or_false] at hx
  rcases hx with rfl | rfl | rfl | rfl
  · exact ⟨⟨hn.h.1, hn.h.2.1, r1.h, hn.h.2.2.2⟩⟩
  · exact ⟨⟨hn.h.1, hn.h.2.1, hn.h.2.2.1, r2.h⟩⟩
  · exact ⟨⟨hn.h.1, r3.h, hn.h.2.2.1, hn.h.2.2.2⟩⟩
  · exact ⟨⟨r4.h, hn.h.2.1, hn.h.2.2.1, hn.h.2.2.2⟩⟩
end
end Go.Proofs.Ytmmjecopcjkeaaa
