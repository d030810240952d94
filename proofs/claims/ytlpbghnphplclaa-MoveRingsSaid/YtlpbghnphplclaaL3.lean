/- The plain law of MoveRings. -/
import Derived.Test.YtlpbghnphplclaaL2
namespace Go.Proofs.Ytlpbghnphplclaa
set_option linter.unusedVariables false
set_option linter.unusedSimpArgs false
open Go

def ringA (n k : Nat) : Mv := ⟨k, ((k + 1) % n : Nat)⟩
def ringB (n j : Nat) : Mv := ⟨(n + j : Nat), (j % n : Nat)⟩
def ringL (n m : Nat) : List Mv := (List.range n).map (ringA n) ++ (List.range m).map (ringB n)

theorem ringL_len (n m : Nat) : (ringL n m).length = n + m := by simp [ringL]
theorem ringL_to (n m : Nat) : (ringL n m).map Mv.to = (List.range (n + m)).map (fun k : Nat => (k : Int)) := by
  unfold ringL
  rw [List.map_append, List.map_map, List.map_map, List.range_add, List.map_append, List.map_map]
  rfl
theorem ringL_nd (n m : Nat) : ((ringL n m).map Mv.to).Nodup := by
  rw [ringL_to, List.Nodup, List.pairwise_map]
  exact List.pairwise_lt_range.imp fun h => by omega
theorem ringL_mem {n m : Nat} {x : Mv} (h : x ∈ ringL n m) : (∃ k, k < n ∧ x = ringA n k) ∨ ∃ j, j < m ∧ x = ringB n j := by
  rcases List.mem_append.1 h with h | h
  · obtain ⟨k, hk, rfl⟩ := List.mem_map.1 h; exact .inl ⟨k, List.mem_range.1 hk, rfl⟩
  · obtain ⟨k, hk, rfl⟩ := List.mem_map.1 h; exact .inr ⟨k, List.mem_range.1 hk, rfl⟩
theorem ringL_ne {n m : Nat} (hn : 2 ≤ n) {x : Mv} (h : x ∈ ringL n m) : x.to ≠ x.fr ∧ 0 ≤ x.fr ∧ x.fr < n ∧ 0 ≤ x.to ∧ x.to < n + m := by
  rcases ringL_mem h with ⟨k, hk, rfl⟩ | ⟨j, hj, rfl⟩
  · have h1 : (k + 1) % n < n := Nat.mod_lt _ (by omega)
    have h2 : k ≠ (k + 1) % n := by
      by_cases h : k + 1 = n
      · rw [h, Nat.mod_self]; omega
      · rw [Nat.mod_eq_of_lt (by omega)]; omega
    unfold ringA
    refine ⟨fun e => h2 ?_, ?_, ?_, ?_, ?_⟩ <;> simp only at * <;> omega
  · have h1 : j % n < n := Nat.mod_lt _ (by omega)
    unfold ringB
    refine ⟨fun e => ?_, ?_, ?_, ?_, ?_⟩ <;> simp only at * <;> omega

theorem ringF {n m k : Nat} (hk : k < n) : fromF (ringL n m) (k : Int) = some (((k + 1) % n : Nat) : Int) := by
  have : ringA n k ∈ ringL n m := List.mem_append.2 (.inl (List.mem_map.2 ⟨k, List.mem_range.2 hk, rfl⟩))
  exact fromF_mem (ringL_nd n m) this
theorem ring_leads {n m : Nat} : ∀ k, k < n → itf (fromF (ringL n m)) k 0 = some (k : Int)
  | 0, _ => rfl
  | k + 1, h => by
    rw [itf_succ, ring_leads k (by omega)]
    show fromF (ringL n m) (k : Int) = _
    rw [ringF (by omega), Nat.mod_eq_of_lt h]
theorem ring_onC {n m : Nat} (hn : 0 < n) : onC (fromF (ringL n m)) 0 := by
  refine ⟨n - 1, ?_⟩
  rw [itf_succ, ring_leads (n - 1) (by omega)]
  show fromF (ringL n m) ((n - 1 : Nat) : Int) = _
  rw [ringF (by omega), show n - 1 + 1 = n by omega, Nat.mod_self]; rfl

theorem cyc_none {f : Int → Option Int} {x : Int} (hx : onC f x) : ∀ (l e : List Int), x ∈ e → (∀ p ∈ l, onC f p → leads f x p) → cyc f e l = 0
  | [], _, _, _ => rfl
  | p :: l, e, he, h => by
    unfold cyc
    rw [if_neg, cyc_none hx l (p :: e) (by simp [he]) fun q hq => h q (by simp [hq])]
    rintro ⟨h1, h2⟩
    exact h2 ⟨x, he, hx, h p (by simp) h1⟩

theorem ring_cyc {n m : Nat} (hn : 0 < n) : cyc (fromF (ringL n m)) [] ((ringL n m).map Mv.to) = 1 := by
  rw [ringL_to]
  obtain ⟨N, hN⟩ : ∃ N, n + m = N + 1 := ⟨n + m - 1, by omega⟩
  rw [hN, List.range_succ_eq_map, List.map_cons, List.map_map]
  show cyc (fromF (ringL n m)) [] (0 :: _) = 1
  unfold cyc
  rw [if_pos ⟨ring_onC hn, by simp⟩, cyc_none (ring_onC hn) _ [0] (by simp)]
  intro p hp hc
  obtain ⟨k, hk, rfl⟩ := List.mem_map.1 hp
  obtain ⟨j, hj⟩ := hc
  rw [itf_succ] at hj
  have hlt : k + 1 < n := by
    cases h : itf (fromF (ringL n m)) j (((k + 1 : Nat) : Int)) with
    | none =>
      have h' : itf (fromF (ringL n m)) j (((fun k : Nat => (k : Int)) ∘ Nat.succ) k) = none := h
      rw [h'] at hj; cases hj
    | some y =>
      have h' : itf (fromF (ringL n m)) j (((fun k : Nat => (k : Int)) ∘ Nat.succ) k) = some y := h
      rw [h'] at hj
      obtain ⟨x, hx, _, hx2⟩ := fromF_some (p := y) hj
      rcases ringL_mem hx with ⟨i, hi, rfl⟩ | ⟨i, hi, rfl⟩
      · have h1 : (i + 1) % n < n := Nat.mod_lt _ hn
        have h2 : (((i + 1) % n : Nat) : Int) = ((k + 1 : Nat) : Int) := hx2
        omega
      · have h1 : i % n < n := Nat.mod_lt _ hn
        have h2 : ((i % n : Nat) : Int) = ((k + 1 : Nat) : Int) := hx2
        omega
  exact ⟨k + 1, ring_leads (k + 1) hlt⟩

theorem rings_law {n m : Nat} (hn : 2 ≤ n) (hs : n + m ≤ 999) (F : St8) :
    (∀ x ∈ ringL n m, vl (doOf (lineOf (ringL n m) 999) F) x.to = vl F x.fr) ∧ (lineOf (ringL n m) 999).length = n + m + 1 := by
  have hne : ∀ x ∈ ringL n m, x.to ≠ 999 := fun x hx => by have := ringL_ne hn hx; omega
  refine ⟨(lineOf_law _ 999 F (ringL_nd n m) hne).1, ?_⟩
  have hfil : (ringL n m).filter (fun m => !(m.to == m.fr)) = ringL n m := List.filter_eq_self.2 fun x hx => by have := (ringL_ne hn hx).1; simp [this]
  unfold lineOf
  rw [hfil, lineGo_rec, List.nil_append, (line_counts 999 _ _ (lineMu_le 999 _) (ringL_nd n m) hne).1, ring_cyc (by omega), ringL_len]
end Go.Proofs.Ytlpbghnphplclaa
