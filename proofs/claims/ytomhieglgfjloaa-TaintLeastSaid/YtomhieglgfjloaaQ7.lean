/- Layer 12: Writes, walked. -/
import Derived.Test.YtomhieglgfjloaaQ6
namespace Go.Proofs.Ytomhieglgfjloaa
set_option linter.unusedVariables false
set_option linter.unusedSimpArgs false
open Go Go.RowKit

def insF (f : SsaFunc) : List SsaIns := f.fBlocks.xs.flatMap fun b => b.fIns.xs
def insP (p : SsaProg) : List SsaIns := p.fFuncs.xs.flatMap insF
def anySt (l : List SsaIns) : Bool := l.any fun i => decide (i.fOp = 6)
def setAt (l : List SsaIns) (q : Nat) : Bool := l.any fun i => decide (i.fOp = 4 ∧ i.fArr = (q : Int))
/-- Which arrays may be turned. -/
def writesL (p : SsaProg) : List Bool := (List.range p.fArrays.xs.length).map fun q => setAt (insP p) q || anySt (insP p)
structure WPre (ls : List SsaIns) (na : Nat) (an : Bool) (W : List Bool) : Prop where
  a : an = anySt ls
  l : W.length = na
  w : ∀ q, q < na → nth W q = setAt ls q
theorem WPre.go {l : List SsaIns} {na : Nat} {a a' : Bool} {W W' : List Bool} {i : SsaIns} (h : WPre l na a W) (ha : a' = (a || decide (i.fOp = 6))) (hW : W' = if i.fOp = 4 ∧ 0 ≤ i.fArr ∧ i.fArr < na then W.set i.fArr.toNat true else W) : WPre (l ++ [i]) na a' W' := by
  refine ⟨by rw [ha, h.a]; simp [anySt], by rw [hW]; split <;> simp [h.l], fun q hq => ?_⟩
  rw [hW]
  have e : setAt (l ++ [i]) q = (setAt l q || decide (i.fOp = 4 ∧ i.fArr = (q : Int))) := by simp [setAt]
  rw [e]
  split
  · rename_i hc
    rw [nth_set (by rw [h.l]; omega)]
    split
    · rename_i hq'
      rw [decide_eq_true (show i.fOp = 4 ∧ i.fArr = (q : Int) from ⟨hc.1, by omega⟩), Bool.or_true]
    · rename_i hq'
      rw [decide_eq_false (by rintro ⟨_, h⟩; omega), Bool.or_false, h.w q hq]
  · rename_i hc
    rw [decide_eq_false (by rintro ⟨h1, h2⟩; exact hc ⟨h1, by omega, by omega⟩), Bool.or_false, h.w q hq]
set_option maxHeartbeats 8000000 in
theorem writes_spec (p : SsaProg) (hp : FewPr p) : Spec Try.prog 18 [.agg (Enc.enc p).toArray] [] (fun ok w => RdD ok w p) fun r L' => ∃ A c, r = .slice A (writesL p).length c ∧ L' = [own 4 A (writesL p).length c (writesL p)] := by
  refine spec_of Try.func18 rfl rfl fun w0 f0 hR => ?_
  have hpa := hp.a
  have hpf := hp.f
  (repeat' (first | refine s_move ?_ | refine s_assign ?_ | refine s_nil ?_ | (refine k_C ?_; first | refine s_seq ?_ | refine s_region ?_ | refine s_block ?_) | (refine k_E ?_; refine e_seq ?_) | (refine k_load ?_; refine s_ldB rfl rfl ?_) | (refine k_fld ?_; refine s_fldB rfl ?_) | (refine k_call ?_; refine s_len rfl ?_) | (refine s_box _ rfl ?_; intro b) | (refine s_make rfl rfl om ?_; intro b)))
  rename_i b1
  obtain ⟨b3, rfl⟩ : ∃ q, q = b := ⟨_, rfl⟩
  refine s_loop (σ := Nat × Bool × List Bool) (fun q => [(1, .pointer (some ⟨b1, 0, none⟩)), (3, .slice (some ⟨b3, 0, none⟩) p.fArrays.xs.length p.fArrays.xs.length), (17, .slice p.fFuncs.A p.fFuncs.xs.length p.fFuncs.c), (18, .int .i64 p.fFuncs.xs.length), (19, .int .i64 (q.1 : Nat)), (4, .bool q.2.1)]) (fun q => [own 4 (some ⟨b3, 0, none⟩) p.fArrays.xs.length p.fArrays.xs.length q.2.2, var 25 b1 p])
    (fun q => q.1 ≤ p.fFuncs.xs.length ∧ WPre ((p.fFuncs.xs.take q.1).flatMap insF) p.fArrays.xs.length q.2.1 q.2.2) (fun q => p.fFuncs.xs.length - q.1) (0, false, List.replicate p.fArrays.xs.length false) (by repeat (first | exact trivial | refine ⟨rfl, ?_⟩)) ⟨Nat.zero_le _, rfl, List.length_replicate, fun q hq => nth_rep (α := Bool)⟩ PSub.refl ?_
  rintro g ⟨i, a, W⟩ ⟨hi, hW⟩
  dsimp only at hi hW ⊢
  have hWl := hW.l
  (repeat' (first | refine s_nil ?_ | (refine k_C ?_; first | refine s_seq ?_ | refine s_region ?_) | (refine k_E ?_; refine e_seq ?_) | (refine k_bin ?_; refine s_lss rfl rfl ?_)))
  (first | (refine k_C ?_; (refine s_ifd rfl ?_ ?_ <;> intro hc <;> try (exfalso; omega))))
  · have hil : i < p.fFuncs.xs.length := by omega
    have hfb := (hp.k i hil).b
    (repeat' (first | refine s_move ?_ | refine s_nil ?_ | (refine k_C ?_; first | refine s_seq ?_ | refine s_region ?_ | refine s_skip ?_ | refine s_block ?_) | (refine k_E ?_; refine e_seq ?_) | (refine k_load ?_; first | refine s_ldB rfl rfl ?_ | refine s_ldSA rfl rfl om rfl ?_) | (refine k_fld ?_; refine s_fldB rfl ?_) | (refine k_idx ?_; refine s_idxS rfl rfl om ?_) | (refine k_store ?_; refine s_stW _ rfl rfl ?_) | (refine k_call ?_; refine s_len rfl ?_) | (refine s_alloc ?_; intro b)))
    obtain ⟨b6, rfl⟩ : ∃ q, q = b := ⟨_, rfl⟩
    refine s_loop (σ := Nat × Bool × List Bool) (fun q => [(1, .pointer (some ⟨b1, 0, none⟩)), (3, .slice (some ⟨b3, 0, none⟩) p.fArrays.xs.length p.fArrays.xs.length), (17, .slice p.fFuncs.A p.fFuncs.xs.length p.fFuncs.c), (18, .int .i64 p.fFuncs.xs.length), (19, .int .i64 (i : Nat)), (24, .slice (nth p.fFuncs.xs i).fBlocks.A (nth p.fFuncs.xs i).fBlocks.xs.length (nth p.fFuncs.xs i).fBlocks.c), (25, .int .i64 (nth p.fFuncs.xs i).fBlocks.xs.length), (26, .int .i64 (q.1 : Nat)), (4, .bool q.2.1)]) (fun q => [own 4 (some ⟨b3, 0, none⟩) p.fArrays.xs.length p.fArrays.xs.length q.2.2, var 25 b1 p])
      (fun q => q.1 ≤ (nth p.fFuncs.xs i).fBlocks.xs.length ∧ WPre ((p.fFuncs.xs.take i).flatMap insF ++ ((nth p.fFuncs.xs i).fBlocks.xs.take q.1).flatMap fun b => b.fIns.xs) p.fArrays.xs.length q.2.1 q.2.2) (fun q => (nth p.fFuncs.xs i).fBlocks.xs.length - q.1) (0, a, W) (by repeat (first | exact trivial | refine ⟨rfl, ?_⟩)) ⟨Nat.zero_le _, by simpa using hW⟩ (PSub.take [1, 1] rfl) ?_
    clear hW hWl
    rintro g2 ⟨j, a, W⟩ ⟨hj, hW⟩
    dsimp only at hj hW ⊢
    have hWl := hW.l
    (repeat' (first | refine s_nil ?_ | (refine k_C ?_; first | refine s_seq ?_ | refine s_region ?_) | (refine k_E ?_; refine e_seq ?_) | (refine k_bin ?_; refine s_lss rfl rfl ?_)))
    (first | (refine k_C ?_; (refine s_ifd rfl ?_ ?_ <;> intro hc <;> try (exfalso; omega))))
    rotate_left
    · have hjE : j = (nth p.fFuncs.xs i).fBlocks.xs.length := by omega
      subst hjE
      rw [List.take_length] at hW
      (repeat' (first | refine s_move ?_ | refine s_nil ?_ | (refine k_C ?_; first | refine s_region ?_ | refine s_exit ?_) | (refine k_E ?_; first | refine e_seq ?_ | refine e_seq_exit ?_ | refine e_bk_exit ?_ | refine e_bk ?_ | refine e_lp_exit ?_) | (refine k_bin ?_; refine s_add1 rfl rfl om ?_)))
      exact e_lp (i + 1, a, W) (by repeat (first | exact trivial | refine ⟨rfl, ?_⟩)) ⟨by show i + 1 ≤ _; omega, by show WPre ((p.fFuncs.xs.take (i + 1)).flatMap insF) _ _ _; rw [flat_takeN hil]; exact hW⟩ (by show _ - _ < _ - _; omega) PSub.refl
    have hjl : j < (nth p.fFuncs.xs i).fBlocks.xs.length := by omega
    have hbi := ((hp.k i hil).k j hjl).i
    (repeat' (first | refine s_move ?_ | refine s_nil ?_ | (refine k_C ?_; first | refine s_seq ?_ | refine s_region ?_ | refine s_skip ?_ | refine s_block ?_) | (refine k_E ?_; refine e_seq ?_) | (refine k_load ?_; first | refine s_ldB rfl rfl ?_ | refine s_ldSA rfl rfl om rfl ?_) | (refine k_fld ?_; refine s_fldB rfl ?_) | (refine k_idx ?_; refine s_idxS rfl rfl om ?_) | (refine k_store ?_; refine s_stW _ rfl rfl ?_) | (refine k_call ?_; refine s_len rfl ?_) | (refine s_alloc ?_; intro b)))
    obtain ⟨b8, rfl⟩ : ∃ q, q = b := ⟨_, rfl⟩
    refine s_loop (σ := Nat × Bool × List Bool) (fun q => [(1, .pointer (some ⟨b1, 0, none⟩)), (3, .slice (some ⟨b3, 0, none⟩) p.fArrays.xs.length p.fArrays.xs.length), (17, .slice p.fFuncs.A p.fFuncs.xs.length p.fFuncs.c), (18, .int .i64 p.fFuncs.xs.length), (19, .int .i64 (i : Nat)), (24, .slice (nth p.fFuncs.xs i).fBlocks.A (nth p.fFuncs.xs i).fBlocks.xs.length (nth p.fFuncs.xs i).fBlocks.c), (25, .int .i64 (nth p.fFuncs.xs i).fBlocks.xs.length), (26, .int .i64 (j : Nat)), (31, .slice (nth (nth p.fFuncs.xs i).fBlocks.xs j).fIns.A (nth (nth p.fFuncs.xs i).fBlocks.xs j).fIns.xs.length (nth (nth p.fFuncs.xs i).fBlocks.xs j).fIns.c), (32, .int .i64 (nth (nth p.fFuncs.xs i).fBlocks.xs j).fIns.xs.length), (33, .int .i64 (q.1 : Nat)), (4, .bool q.2.1)]) (fun q => [own 4 (some ⟨b3, 0, none⟩) p.fArrays.xs.length p.fArrays.xs.length q.2.2, var 25 b1 p])
      (fun q => q.1 ≤ (nth (nth p.fFuncs.xs i).fBlocks.xs j).fIns.xs.length ∧ WPre (((p.fFuncs.xs.take i).flatMap insF ++ ((nth p.fFuncs.xs i).fBlocks.xs.take j).flatMap fun b => b.fIns.xs) ++ (nth (nth p.fFuncs.xs i).fBlocks.xs j).fIns.xs.take q.1) p.fArrays.xs.length q.2.1 q.2.2) (fun q => (nth (nth p.fFuncs.xs i).fBlocks.xs j).fIns.xs.length - q.1) (0, a, W) (by repeat (first | exact trivial | refine ⟨rfl, ?_⟩)) ⟨Nat.zero_le _, by simpa using hW⟩ (PSub.take [1, 1] rfl) ?_
    clear hW hWl
    rintro g3 ⟨m, a, W⟩ ⟨hm, hW⟩
    dsimp only at hm hW ⊢
    have hWl := hW.l
    (repeat' (first | refine s_nil ?_ | (refine k_C ?_; first | refine s_seq ?_ | refine s_region ?_) | (refine k_E ?_; refine e_seq ?_) | (refine k_bin ?_; refine s_lss rfl rfl ?_)))
    (first | (refine k_C ?_; (refine s_ifd rfl ?_ ?_ <;> intro hc <;> try (exfalso; omega))))
    rotate_left
    · have hmE : m = (nth (nth p.fFuncs.xs i).fBlocks.xs j).fIns.xs.length := by omega
      subst hmE
      rw [List.take_length] at hW
      (repeat' (first | refine s_move ?_ | refine s_nil ?_ | (refine k_C ?_; first | refine s_region ?_ | refine s_exit ?_) | (refine k_E ?_; first | refine e_seq ?_ | refine e_seq_exit ?_ | refine e_bk_exit ?_ | refine e_bk ?_ | refine e_lp_exit ?_) | (refine k_bin ?_; refine s_add1 rfl rfl om ?_)))
      exact e_lp (j + 1, a, W) (by repeat (first | exact trivial | refine ⟨rfl, ?_⟩)) ⟨by show j + 1 ≤ _; omega, by show WPre ((p.fFuncs.xs.take i).flatMap insF ++ ((nth p.fFuncs.xs i).fBlocks.xs.take (j + 1)).flatMap _) _ _ _; rw [flat_takeN hjl, ← List.append_assoc]; exact hW⟩ (by show _ - _ < _ - _; omega) PSub.refl
    have hml : m < (nth (nth p.fFuncs.xs i).fBlocks.xs j).fIns.xs.length := by omega
    have hgo : ∀ a' W', a' = (a || decide ((nth (nth (nth p.fFuncs.xs i).fBlocks.xs j).fIns.xs m).fOp = 6)) → (W' = if (nth (nth (nth p.fFuncs.xs i).fBlocks.xs j).fIns.xs m).fOp = 4 ∧ 0 ≤ (nth (nth (nth p.fFuncs.xs i).fBlocks.xs j).fIns.xs m).fArr ∧ (nth (nth (nth p.fFuncs.xs i).fBlocks.xs j).fIns.xs m).fArr < p.fArrays.xs.length then W.set (nth (nth (nth p.fFuncs.xs i).fBlocks.xs j).fIns.xs m).fArr.toNat true else W) → WPre (((p.fFuncs.xs.take i).flatMap insF ++ ((nth p.fFuncs.xs i).fBlocks.xs.take j).flatMap fun b => b.fIns.xs) ++ (nth (nth p.fFuncs.xs i).fBlocks.xs j).fIns.xs.take (m + 1)) p.fArrays.xs.length a' W' := fun a' W' h1 h2 => by
      rw [← takeN hml, ← List.append_assoc]
      exact hW.go h1 h2
    cases a with
    | true =>
      (repeat' (first | refine s_move ?_ | refine s_assign ?_ | refine s_nil ?_ | (refine k_C ?_; first | refine s_seq ?_ | refine s_region ?_ | refine s_skip ?_ | refine s_block ?_ | refine s_iff rfl ?_ | (refine s_ifd rfl ?_ ?_ <;> intro hc <;> try (exfalso; omega))) | (refine k_E ?_; first | refine e_seq ?_ | refine e_bk ?_) | (refine k_load ?_; first | refine s_ldB rfl rfl ?_ | refine s_ldSA rfl rfl om rfl ?_) | (refine k_bin ?_; first | refine s_lss rfl rfl ?_ | refine s_add1 rfl rfl om ?_ | refine s_eql rfl rfl ?_ | refine s_geq rfl rfl ?_) | (refine k_fld ?_; refine s_fldB rfl ?_) | (refine k_idx ?_; first | refine s_idxI rfl rfl om om ?_ | refine s_idxS rfl rfl om ?_) | (refine k_store ?_; first | refine s_stW _ rfl rfl ?_ | refine s_st _ rfl rfl om ?_) | (refine k_call ?_; refine s_len rfl ?_) | (refine k_guard ?_; first | refine s_on rfl rfl ?_ | refine s_off rfl rfl rfl rfl ?_ | (refine s_casesd rfl rfl ?_ ?_ <;> intro hc <;> try (exfalso; omega))) | (refine s_alloc ?_; intro b) | refine s_pick rfl ?_))
      all_goals first
        | exact e_lp (m + 1, true, W.set (nth (nth (nth p.fFuncs.xs i).fBlocks.xs j).fIns.xs m).fArr.toNat true) (by repeat (first | exact trivial | refine ⟨rfl, ?_⟩)) ⟨by show m + 1 ≤ _; omega, hgo _ _ (by simp) (by show _ = if _ then _ else _; rw [if_pos ⟨by assumption, by omega, by omega⟩])⟩ (by show _ - _ < _ - _; omega) (PSub.take [1, 1] rfl)
        | exact e_lp (m + 1, true, W) (by repeat (first | exact trivial | refine ⟨rfl, ?_⟩)) ⟨by show m + 1 ≤ _; omega, hgo _ _ (by simp) (by show _ = if _ then _ else _; rw [if_neg (by omega)])⟩ (by show _ - _ < _ - _; omega) (PSub.take [1, 1] rfl)
    | false =>
      (repeat' (first | refine s_move ?_ | refine s_assign ?_ | refine s_nil ?_ | (refine k_C ?_; first | refine s_seq ?_ | refine s_region ?_ | refine s_skip ?_ | refine s_block ?_ | refine s_iff rfl ?_ | (refine s_ifd rfl ?_ ?_ <;> intro hc <;> try (exfalso; omega))) | (refine k_E ?_; first | refine e_seq ?_ | refine e_bk ?_) | (refine k_load ?_; first | refine s_ldB rfl rfl ?_ | refine s_ldSA rfl rfl om rfl ?_) | (refine k_bin ?_; first | refine s_lss rfl rfl ?_ | refine s_add1 rfl rfl om ?_ | refine s_eql rfl rfl ?_ | refine s_geq rfl rfl ?_) | (refine k_fld ?_; refine s_fldB rfl ?_) | (refine k_idx ?_; first | refine s_idxI rfl rfl om om ?_ | refine s_idxS rfl rfl om ?_) | (refine k_store ?_; first | refine s_stW _ rfl rfl ?_ | refine s_st _ rfl rfl om ?_) | (refine k_call ?_; refine s_len rfl ?_) | (refine k_guard ?_; first | refine s_on rfl rfl ?_ | refine s_off rfl rfl rfl rfl ?_ | (refine s_casesd rfl rfl ?_ ?_ <;> intro hc <;> try (exfalso; omega))) | (refine s_alloc ?_; intro b) | refine s_pick rfl ?_))
      all_goals first
        | exact e_lp (m + 1, decide ((nth (nth (nth p.fFuncs.xs i).fBlocks.xs j).fIns.xs m).fOp = 6), W.set (nth (nth (nth p.fFuncs.xs i).fBlocks.xs j).fIns.xs m).fArr.toNat true) (by repeat (first | exact trivial | refine ⟨rfl, ?_⟩)) ⟨by show m + 1 ≤ _; omega, hgo _ _ (by simp) (by show _ = if _ then _ else _; rw [if_pos ⟨by assumption, by omega, by omega⟩])⟩ (by show _ - _ < _ - _; omega) (PSub.take [1, 1] rfl)
        | exact e_lp (m + 1, decide ((nth (nth (nth p.fFuncs.xs i).fBlocks.xs j).fIns.xs m).fOp = 6), W) (by repeat (first | exact trivial | refine ⟨rfl, ?_⟩)) ⟨by show m + 1 ≤ _; omega, hgo _ _ (by simp) (by show _ = if _ then _ else _; rw [if_neg (by omega)])⟩ (by show _ - _ < _ - _; omega) (PSub.take [1, 1] rfl)
  have hiE : i = p.fFuncs.xs.length := by omega
  subst hiE
  rw [List.take_length] at hW
  (repeat' (first | refine s_move ?_ | refine s_nil ?_ | (refine k_C ?_; first | refine s_seq ?_ | refine s_region ?_ | refine s_block ?_ | refine s_exit ?_) | (refine k_E ?_; first | refine e_seq ?_ | refine e_seq_exit ?_ | refine e_bk_exit ?_ | refine e_lp_exit ?_) | (refine k_call ?_; refine s_len rfl ?_)))
  have haE := hW.a
  have hwE := hW.w
  clear hW
  refine s_loop (σ := Nat × List Bool) (fun q => [(1, .pointer (some ⟨b1, 0, none⟩)), (3, .slice (some ⟨b3, 0, none⟩) p.fArrays.xs.length p.fArrays.xs.length), (4, .bool a), (65, .slice (some ⟨b3, 0, none⟩) p.fArrays.xs.length p.fArrays.xs.length), (66, .int .i64 p.fArrays.xs.length), (67, .int .i64 (q.1 : Nat))]) (fun q => [own 4 (some ⟨b3, 0, none⟩) p.fArrays.xs.length p.fArrays.xs.length q.2, var 25 b1 p])
    (fun q => q.1 ≤ p.fArrays.xs.length ∧ q.2.length = p.fArrays.xs.length ∧ ∀ x, x < p.fArrays.xs.length → nth q.2 x = if x < q.1 then setAt (insP p) x || anySt (insP p) else setAt (insP p) x) (fun q => p.fArrays.xs.length - q.1) (0, W) (by repeat (first | exact trivial | refine ⟨rfl, ?_⟩)) ⟨Nat.zero_le _, hWl, fun x hx => by show nth W x = if x < 0 then _ else _; rw [if_neg (Nat.not_lt_zero x)]; exact hwE x hx⟩ PSub.refl ?_
  clear hwE hWl
  rintro g2 ⟨q, W⟩ ⟨hq, hWl, hwE⟩
  dsimp only at hq hWl hwE ⊢
  (repeat' (first | refine s_nil ?_ | (refine k_C ?_; first | refine s_seq ?_ | refine s_region ?_) | (refine k_E ?_; refine e_seq ?_) | (refine k_bin ?_; refine s_lss rfl rfl ?_)))
  (first | (refine k_C ?_; (refine s_ifd rfl ?_ ?_ <;> intro hc <;> try (exfalso; omega))))
  · have hql : q < p.fArrays.xs.length := by omega
    have hwq := hwE q hql
    rw [if_neg (Nat.lt_irrefl q)] at hwq
    have hnx : ∀ z, z = (setAt (insP p) q || anySt (insP p)) → ∀ x, x < p.fArrays.xs.length → nth (W.set q z) x = if x < q + 1 then setAt (insP p) x || anySt (insP p) else setAt (insP p) x := fun z hz x hx => by
      rw [nth_set (by omega)]
      by_cases e : x = q
      · rw [if_pos e, if_pos (by omega), hz, e]
      · rw [if_neg e, hwE x hx]
        by_cases h : x < q
        · rw [if_pos h, if_pos (by omega)]
        · rw [if_neg h, if_neg (by omega)]
    have haE' : a = anySt (insP p) := haE
    cases hv : nth W q with
    | true =>
      (repeat' (first | refine s_move ?_ | refine s_assign ?_ | refine s_nil ?_ | (refine k_C ?_; first | refine s_seq ?_ | refine s_region ?_ | refine s_skip ?_ | refine s_block ?_) | (refine k_E ?_; first | refine e_seq ?_ | refine e_bk ?_) | (refine k_load ?_; refine s_ld rfl om rfl ?_) | (refine k_bin ?_; refine s_add1 rfl rfl om ?_) | (refine k_idx ?_; refine s_idx rfl rfl om ?_) | (refine k_store ?_; refine s_st _ rfl rfl om ?_) | (refine k_guard ?_; first | refine s_on rfl rfl ?_ | refine s_off rfl rfl rfl rfl ?_ | (refine s_cases rfl rfl ?_ ?_ <;> intro hc)) | refine s_pick rfl ?_))
      all_goals first
        | exact e_lp (q + 1, W.set q true) (by repeat (first | exact trivial | refine ⟨rfl, ?_⟩)) ⟨by show q + 1 ≤ _; omega, by show (W.set q true).length = _; rw [List.length_set]; exact hWl, hnx true (by rw [← hwq, hv]; rfl)⟩ (by show _ - _ < _ - _; omega) PSub.refl
        | (exfalso; simp [hv] at *)
    | false =>
      (repeat' (first | refine s_move ?_ | refine s_assign ?_ | refine s_nil ?_ | (refine k_C ?_; first | refine s_seq ?_ | refine s_region ?_ | refine s_skip ?_ | refine s_block ?_) | (refine k_E ?_; first | refine e_seq ?_ | refine e_bk ?_) | (refine k_load ?_; refine s_ld rfl om rfl ?_) | (refine k_bin ?_; refine s_add1 rfl rfl om ?_) | (refine k_idx ?_; refine s_idx rfl rfl om ?_) | (refine k_store ?_; refine s_st _ rfl rfl om ?_) | (refine k_guard ?_; first | refine s_on rfl rfl ?_ | refine s_off rfl rfl rfl rfl ?_ | (refine s_cases rfl rfl ?_ ?_ <;> intro hc)) | refine s_pick rfl ?_))
      all_goals first
        | exact e_lp (q + 1, W.set q a) (by repeat (first | exact trivial | refine ⟨rfl, ?_⟩)) ⟨by show q + 1 ≤ _; omega, by show (W.set q a).length = _; rw [List.length_set]; exact hWl, hnx a (by rw [← hwq, hv, haE']; rfl)⟩ (by show _ - _ < _ - _; omega) PSub.refl
        | (exfalso; simp [hv] at *)
  have hqE : q = p.fArrays.xs.length := by omega
  subst hqE
  have hE : W = writesL p := by
    refine List.ext_getElem (by rw [hWl]; simp [writesL]) fun x h1 h2 => ?_
    have := hwE x (by omega)
    rw [if_pos (by omega), nth_get h1] at this
    rw [this]
    simp [writesL]
  have hwl : (writesL p).length = p.fArrays.xs.length := by simp [writesL]
  subst hE
  rw [← hwl]
  (repeat' (first | refine s_move ?_ | refine s_assign ?_ | refine s_nil ?_ | (refine k_C ?_; first | refine s_seq ?_ | refine s_region ?_ | refine s_exit ?_ | refine s_ret ?_) | (refine k_E ?_; first | refine e_seq ?_ | refine e_seq_exit ?_ | refine e_bk_exit ?_ | refine e_lp_exit ?_)))
  exact e_done rfl rfl _ (PSub.take [0] rfl) ⟨_, _, rfl, rfl⟩
end Go.Proofs.Ytomhieglgfjloaa
