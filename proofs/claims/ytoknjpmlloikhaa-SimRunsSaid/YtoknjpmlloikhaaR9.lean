/- Layer 8: the words at the start, walked. -/
import Derived.Test.YtoknjpmlloikhaaR8
namespace Go.Proofs.Ytoknjpmlloikhaa
set_option linter.unusedVariables false
set_option linter.unusedSimpArgs false
open Go Go.RowKit

section
variable {P : Program} {n : Nat} {w0 : World} {f0 : FP} {ops : Array Oper} {rest : List Oper} {QC : Exit → Fr → World → Prop} {f : Fr} {L : List HP} {put : HP → List HP}
variable {A : Option Addr} {l c sz bytes : Nat} {d : Tmp} {x y : Operand} {ty t t2 e : TypeId} {pos : String} {after : Array Edge}
variable {α : Type} [I : Enc α] {xs : List α}
/-- copy of what is only read. -/
theorem s_copyS [hs : SlT P t e] [hE : Elt P e α I sz bytes] [Dp α] {s : Sl α} (hx : ev f x = .slice A l c) [h : Pc L A (own (I := I) e A l c xs) put] (hy : ev f y = .slice s.A s.xs.length s.c) [h2 : RdD (okOf w0 f0) w0 s] (h0 : 0 < l)
    (hn : sO P n w0 f0 ops false rest QC (up f d (.int .i64 ((min s.xs.length l : Nat) : Int))) (put (own (I := I) e A l c (s.xs.take l ++ xs.drop (min s.xs.length l))))) (hd : Nat.blt d n = true := by rfl) :
    sO P n w0 f0 ops false (⟨some d, .call { callee := .builtin .copy, args := #[x, y], argTypes := #[t, t2] }, ty, pos, after, none⟩ :: rest) QC f L := by
  intro w H
  have hR := h2.h.1
  unfold RdSl at hR
  obtain ⟨k0, k1, k2, k3⟩ := hR.loc H.ok0
  obtain ⟨i, f1, hi, hA, hB⟩ := h.st H
  obtain ⟨a, rfl, _⟩ := row.adr (show (row A l c e I.sz (xs.flatMap I.enc)).sat w f1 from hA) (by omega)
  obtain ⟨zv, hTI, _⟩ := hE.ex
  have hle := own.len hA
  have hlen : ((s.xs.take l).flatMap I.enc).length = (min s.xs.length l) * I.sz := by rw [flat_len (fun a _ => I.len a), List.length_take, Nat.min_comm]
  have hone : ∀ v ∈ (s.xs.take l).flatMap I.enc, v.oneCell' = true := fun v hv => by
    obtain ⟨a, _, ha⟩ := List.mem_flatMap.1 hv; exact I.one _ _ ha
  have hcell : (Builtin.firstCells sz (min s.xs.length l) (ev f y)).run P w = .ok ((s.xs.take l).flatMap I.enc).toArray w := by
    rw [hy, ← hE.sz_eq]
    rcases k3 with h3 | ⟨b, hb, hc⟩
    · have e0 : s.xs = [] := List.eq_nil_of_length_eq_zero h3
      rw [e0]
      cases s.A with
      | none => simp [Builtin.firstCells]
      | some b => exact run_firstCells_some w _ _ b _ _ _ (by simp) (fun j v hj => by simp at hj)
    · rw [hb]
      refine run_firstCells_some w _ _ b _ _ _ hlen (fun j v hj => hc.2 j v ?_)
      have e1 : s.xs.flatMap I.enc = (s.xs.take l).flatMap I.enc ++ (s.xs.drop l).flatMap I.enc := by rw [← List.flatMap_append, List.take_append_drop]
      rw [e1, List.getElem?_append_left (List.getElem?_eq_some_iff.1 hj).1]
      exact hj
  obtain ⟨w', hrun, hsat, hst⟩ := row.put (P := P) (show (row (some a) l c e I.sz (xs.flatMap I.enc)).sat w f1 from hA) 0 ((s.xs.take l).flatMap I.enc) (by
    rw [hlen, flat_len (fun a _ => I.len a), hle.1, Nat.zero_add]
    exact Nat.mul_le_mul_right _ (Nat.min_le_right _ _)) hone
  have e2 : lay (xs.flatMap I.enc) 0 ((s.xs.take l).flatMap I.enc) = (s.xs.take l ++ xs.drop (min s.xs.length l)).flatMap I.enc := by
    unfold lay
    rw [hlen, Nat.zero_add, flat_drop (fun a _ => I.len a), List.take_zero, List.nil_append, List.flatMap_append]
  rw [e2] at hsat
  have hadd : a.add 0 = a := by cases a; rfl
  rw [hadd] at hrun
  have hu := hs.u
  refine o_val (w' := w') (v := .int .i64 ((min s.xs.length l : Nat) : Int)) rfl hd ?_ (hn w' (hB w' _ f1 hst hsat fun b hb => .inl hb))
  rw [hy] at hcell
  have hso2 : ∀ w, (sizeOf e).run P w = .ok sz w := hTI.size
  simp [execOp, resolve, invoke, builtin, Builtin.copy_, hx, hy, run_underlying hu, Builtin.lenOf, hso2, goInt]
  have hmin : s.xs.length.min l = min s.xs.length l := rfl
  simp only [hmin, hcell, Result.andThen, hrun]
end
/-- The words of an array at the start. -/
def sizeW (a : SsaArray) : Nat := (max 1 (min a.fSize 4096)).toNat
def startRow (a : SsaArray) (w : List Int) : List Int := w.take (sizeW a) ++ List.replicate (sizeW a - w.length) 0
/-- How many of the first few arrays are inputs. -/
def inN (as' : List SsaArray) (k : Nat) : Nat := ((as'.take k).filter fun a => decide (a.fHold ≠ 0)).length
def startW (as' : List SsaArray) (ins : List (Sl Int)) (j : Nat) : List Int := if (nth as' j).fHold = 0 then [] else if inN as' j < ins.length then (nth ins (inN as' j)).xs else []
def startM (as' : List SsaArray) (ins : List (Sl Int)) (k : Nat) : List (List Int) := (List.range k).map fun j => startRow (nth as' j) (startW as' ins j)
theorem inN_step {as' : List SsaArray} {k : Nat} (h : k < as'.length) : inN as' (k + 1) = inN as' k + if (nth as' k).fHold = 0 then 0 else 1 := by
  unfold inN
  rw [← take_nth h, List.filter_append, List.length_append]
  congr 1
  by_cases e : (nth as' k).fHold = 0 <;> simp [e]
theorem startM_step {as' : List SsaArray} {ins : List (Sl Int)} {k : Nat} : startM as' ins (k + 1) = startM as' ins k ++ [startRow (nth as' k) (startW as' ins k)] := by
  unfold startM; rw [List.range_succ, List.map_append]; rfl
theorem sizeW_le {a : SsaArray} : 1 ≤ sizeW a ∧ sizeW a ≤ 4096 := by unfold sizeW; omega
theorem startRow_len {a : SsaArray} {w : List Int} : (startRow a w).length = sizeW a := by
  unfold startRow; rw [List.length_append, List.length_take, List.length_replicate]; omega
set_option maxHeartbeats 2000000 in
theorem start_spec (p : SsaProg) (ins : Sl (Sl Int)) (ha : p.fArrays.xs.length ≤ 100000) (hi : ins.xs.length ≤ 100000) :
    Spec Try.prog 13 [.agg (Enc.enc p).toArray, .slice ins.A ins.xs.length ins.c] [] (fun ok w => RdD ok w p ∧ RdD ok w ins)
      fun v L' => ∃ A c ss, v = .slice A ss.length c ∧ ss.map (·.xs) = startM p.fArrays.xs ins.xs p.fArrays.xs.length ∧ L' = [own 45 A ss.length c ss, rws 2 ss] := by
  refine spec_of Try.func13 rfl rfl fun w0 f0 hR => ?_
  obtain ⟨hRp, hRi⟩ := hR
  (repeat' (first | refine s_move ?_ | refine s_assign ?_ | refine s_nil ?_ | (refine k_C ?_; first | refine s_seq ?_ | refine s_region ?_ | refine s_block ?_) | (refine k_E ?_; refine e_seq ?_) | (refine k_load ?_; refine s_ldB rfl rfl ?_) | (refine k_fld ?_; refine s_fldB rfl ?_) | (refine k_call ?_; refine s_len rfl ?_) | (refine s_box _ rfl ?_; intro b)))
  obtain ⟨bp, rfl⟩ : ∃ q, q = b := ⟨_, rfl⟩
  refine s_loop (σ := Nat × Option Addr × Nat × List (Sl Int)) (fun q => [(1, .slice ins.A ins.xs.length ins.c), (5, .slice q.2.1 q.2.2.2.length q.2.2.1), (6, .int .i64 (inN p.fArrays.xs q.1 : Nat)), (11, .slice p.fArrays.A p.fArrays.xs.length p.fArrays.c), (12, .int .i64 p.fArrays.xs.length), (13, .int .i64 (q.1 : Nat))]) (fun q => [own 45 q.2.1 q.2.2.2.length q.2.2.1 q.2.2.2, rws 2 q.2.2.2])
    (fun q => q.1 ≤ p.fArrays.xs.length ∧ q.2.2.2.map (·.xs) = startM p.fArrays.xs ins.xs q.1) (fun q => p.fArrays.xs.length - q.1) (0, none, 0, []) (by repeat (first | exact trivial | refine ⟨rfl, ?_⟩)) ⟨Nat.zero_le _, rfl⟩ ((PSub.nilRws 2).trans ((PSub.nilOwn (α := Sl Int) 45).trans (PSub.take [0, 0] rfl))) ?_
  rintro g ⟨k, A1, c1, ss⟩ ⟨hk, hs⟩
  dsimp only at hk hs ⊢
  (repeat' (first | refine s_nil ?_ | (refine k_C ?_; first | refine s_seq ?_ | refine s_region ?_) | (refine k_E ?_; refine e_seq ?_) | (refine k_bin ?_; refine s_lss rfl rfl ?_)))
  (first | (refine k_C ?_; (refine s_ifd rfl ?_ ?_ <;> intro hc <;> try (exfalso; omega))))
  · have hkl : k < p.fArrays.xs.length := by omega
    have hin : inN p.fArrays.xs k ≤ k := by
      unfold inN
      exact Nat.le_trans (List.length_filter_le _ _) (by rw [List.length_take]; omega)
    have hsz : (max 1 (min (nth p.fArrays.xs k).fSize 4096)).toNat = sizeW (nth p.fArrays.xs k) := rfl
    have hsl := sizeW_le (a := nth p.fArrays.xs k)
    have hss9 : ss.length = k := by
      have := congrArg List.length hs
      rw [List.length_map] at this
      rw [this]; unfold startM; simp
    have hst9 : ∀ R : List Int, R = startRow (nth p.fArrays.xs k) (startW p.fArrays.xs ins.xs k) → ∀ b9 c9 : _, (ss ++ [(⟨b9, c9, R⟩ : Sl Int)]).map (·.xs) = startM p.fArrays.xs ins.xs (k + 1) := fun R hR b9 c9 => by
      rw [List.map_append, hs, startM_step, hR]; rfl
    (repeat' (first | refine s_move ?_ | refine s_assign ?_ | refine s_nil ?_ | (refine k_C ?_; first | refine s_seq ?_ | refine s_region ?_ | refine s_skip ?_ | refine s_block ?_ | (refine s_ifd rfl ?_ ?_ <;> intro hc <;> try (exfalso; omega)) | (refine s_ifn rfl ?_ ?_ <;> intro hc <;> try (exfalso; omega))) | (refine k_E ?_; refine e_seq ?_) | (refine k_load ?_; first | refine s_ldB rfl rfl ?_ | refine s_ldS rfl rfl om rfl ?_ | refine s_ldSA rfl rfl om rfl ?_) | (refine k_bin ?_; first | refine s_lss rfl rfl ?_ | refine s_add1 rfl rfl om ?_ | refine s_neq rfl rfl ?_) | (refine k_fld ?_; refine s_fldB rfl ?_) | (refine k_idx ?_; refine s_idxS rfl rfl om ?_) | (refine k_store ?_; refine s_stW _ rfl rfl ?_) | (refine k_call ?_; first | refine s_len rfl ?_ | refine s_min rfl rfl ?_ | refine s_max rfl rfl ?_) | (refine s_alloc ?_; intro b) | (refine s_makeI rfl rfl om om ?_; intro b)))
    · have hNe : ¬ (nth p.fArrays.xs k).fHold = 0 := by assumption
      have hlt : inN p.fArrays.xs k < ins.xs.length := by omega
      refine s_copyS rfl rfl (by omega) ?_
      (repeat' (first | refine s_move ?_ | refine s_assign ?_ | refine s_nil ?_ | (refine k_C ?_; refine s_region ?_) | (refine k_E ?_; refine e_seq ?_) | (refine k_bin ?_; refine s_add1 rfl rfl om ?_)))
      have hR9 : (nth ins.xs (inN p.fArrays.xs k)).xs.take (sizeW (nth p.fArrays.xs k)) ++ (List.replicate (sizeW (nth p.fArrays.xs k)) (0 : Int)).drop (min (nth ins.xs (inN p.fArrays.xs k)).xs.length (sizeW (nth p.fArrays.xs k))) = startRow (nth p.fArrays.xs k) (startW p.fArrays.xs ins.xs k) := by
        unfold startRow startW
        rw [if_neg hNe, if_pos hlt, List.drop_replicate]
        congr 2
        omega
      refine s_app1 (⟨some ⟨b, 0, none⟩, sizeW (nth p.fArrays.xs k), startRow (nth p.fArrays.xs k) (startW p.fArrays.xs ins.xs k)⟩ : Sl Int) (fun _ => rfl) (by show [Value.slice _ (sizeW (nth p.fArrays.xs k)) _] = [Value.slice _ (startRow _ _).length _]; rw [startRow_len]; rfl) (by omega) ?_
      intro v A2 c2
      (repeat' (first | refine s_move ?_ | refine s_assign ?_ | refine s_nil ?_ | (refine k_C ?_; refine s_region ?_) | (refine k_E ?_; first | refine e_seq ?_ | refine e_bk ?_) | (refine k_bin ?_; refine s_add1 rfl rfl om ?_)))
      refine e_lp (k + 1, A2, c2, ss ++ [(⟨some ⟨b, 0, none⟩, sizeW (nth p.fArrays.xs k), startRow (nth p.fArrays.xs k) (startW p.fArrays.xs ins.xs k)⟩ : Sl Int)]) (by dsimp only; rw [inN_step hkl, if_neg hNe, List.length_append]; exact (by repeat (first | exact trivial | refine ⟨rfl, ?_⟩))) ⟨by show k + 1 ≤ _; omega, hst9 _ rfl _ _⟩ (by show _ - _ < _ - _; omega) ?_
      refine (PSub.take (L' := [rws 2 ss, own 2 (some ⟨b, 0, none⟩) (sizeW (nth p.fArrays.xs k)) (sizeW (nth p.fArrays.xs k)) (startRow (nth p.fArrays.xs k) (startW p.fArrays.xs ins.xs k)), own 45 A2 (ss.length + 1) c2 (ss ++ [(⟨some ⟨b, 0, none⟩, sizeW (nth p.fArrays.xs k), startRow (nth p.fArrays.xs k) (startW p.fArrays.xs ins.xs k)⟩ : Sl Int)])]) [3, 0, 1] ?_).trans ((PSub.join startRow_len).trans ((PSub.take [1, 0] rfl).trans (PSub.eq (by dsimp only; rw [List.length_append]; rfl))))
      rw [← hR9]
      rfl
    · have hNe : ¬ (nth p.fArrays.xs k).fHold = 0 := by assumption
      have hlt : ¬ inN p.fArrays.xs k < ins.xs.length := by omega
      have hR9 : List.replicate (sizeW (nth p.fArrays.xs k)) (0 : Int) = startRow (nth p.fArrays.xs k) (startW p.fArrays.xs ins.xs k) := by
        unfold startRow startW
        rw [if_neg hNe, if_neg hlt]
        simp
      refine s_app1 (⟨some ⟨b, 0, none⟩, sizeW (nth p.fArrays.xs k), startRow (nth p.fArrays.xs k) (startW p.fArrays.xs ins.xs k)⟩ : Sl Int) (fun _ => rfl) (by show [Value.slice _ (sizeW (nth p.fArrays.xs k)) _] = [Value.slice _ (startRow _ _).length _]; rw [startRow_len]; rfl) (by omega) ?_
      intro v A2 c2
      (repeat' (first | refine s_move ?_ | refine s_assign ?_ | refine s_nil ?_ | (refine k_C ?_; refine s_region ?_) | (refine k_E ?_; first | refine e_seq ?_ | refine e_bk ?_) | (refine k_bin ?_; refine s_add1 rfl rfl om ?_)))
      refine e_lp (k + 1, A2, c2, ss ++ [(⟨some ⟨b, 0, none⟩, sizeW (nth p.fArrays.xs k), startRow (nth p.fArrays.xs k) (startW p.fArrays.xs ins.xs k)⟩ : Sl Int)]) (by dsimp only; rw [inN_step hkl, if_neg hNe, List.length_append]; exact (by repeat (first | exact trivial | refine ⟨rfl, ?_⟩))) ⟨by show k + 1 ≤ _; omega, hst9 _ rfl _ _⟩ (by show _ - _ < _ - _; omega) ?_
      refine (PSub.take (L' := [rws 2 ss, own 2 (some ⟨b, 0, none⟩) (sizeW (nth p.fArrays.xs k)) (sizeW (nth p.fArrays.xs k)) (startRow (nth p.fArrays.xs k) (startW p.fArrays.xs ins.xs k)), own 45 A2 (ss.length + 1) c2 (ss ++ [(⟨some ⟨b, 0, none⟩, sizeW (nth p.fArrays.xs k), startRow (nth p.fArrays.xs k) (startW p.fArrays.xs ins.xs k)⟩ : Sl Int)])]) [3, 0, 1] ?_).trans ((PSub.join startRow_len).trans ((PSub.take [1, 0] rfl).trans (PSub.eq (by dsimp only; rw [List.length_append]; rfl))))
      rw [← hR9]
      rfl
    · have hNe : (nth p.fArrays.xs k).fHold = 0 := by first | assumption | omega
      have hR9 : List.replicate (sizeW (nth p.fArrays.xs k)) (0 : Int) = startRow (nth p.fArrays.xs k) (startW p.fArrays.xs ins.xs k) := by
        unfold startRow startW
        rw [if_pos hNe]
        simp
      refine s_app1 (⟨some ⟨b, 0, none⟩, sizeW (nth p.fArrays.xs k), startRow (nth p.fArrays.xs k) (startW p.fArrays.xs ins.xs k)⟩ : Sl Int) (fun _ => rfl) (by show [Value.slice _ (sizeW (nth p.fArrays.xs k)) _] = [Value.slice _ (startRow _ _).length _]; rw [startRow_len]; rfl) (by omega) ?_
      intro v A2 c2
      (repeat' (first | refine s_move ?_ | refine s_assign ?_ | refine s_nil ?_ | (refine k_C ?_; refine s_region ?_) | (refine k_E ?_; first | refine e_seq ?_ | refine e_bk ?_) | (refine k_bin ?_; refine s_add1 rfl rfl om ?_)))
      refine e_lp (k + 1, A2, c2, ss ++ [(⟨some ⟨b, 0, none⟩, sizeW (nth p.fArrays.xs k), startRow (nth p.fArrays.xs k) (startW p.fArrays.xs ins.xs k)⟩ : Sl Int)]) (by dsimp only; rw [inN_step hkl, if_pos hNe, List.length_append]; exact (by repeat (first | exact trivial | refine ⟨rfl, ?_⟩))) ⟨by show k + 1 ≤ _; omega, hst9 _ rfl _ _⟩ (by show _ - _ < _ - _; omega) ?_
      refine (PSub.take (L' := [rws 2 ss, own 2 (some ⟨b, 0, none⟩) (sizeW (nth p.fArrays.xs k)) (sizeW (nth p.fArrays.xs k)) (startRow (nth p.fArrays.xs k) (startW p.fArrays.xs ins.xs k)), own 45 A2 (ss.length + 1) c2 (ss ++ [(⟨some ⟨b, 0, none⟩, sizeW (nth p.fArrays.xs k), startRow (nth p.fArrays.xs k) (startW p.fArrays.xs ins.xs k)⟩ : Sl Int)])]) [3, 0, 1] ?_).trans ((PSub.join startRow_len).trans ((PSub.take [1, 0] rfl).trans (PSub.eq (by dsimp only; rw [List.length_append]; rfl))))
      rw [← hR9]
      rfl
  have hkE : k = p.fArrays.xs.length := by omega
  subst hkE
  (repeat' (first | refine s_move ?_ | refine s_assign ?_ | refine s_nil ?_ | (refine k_C ?_; first | refine s_seq ?_ | refine s_region ?_ | refine s_exit ?_ | refine s_ret ?_) | (refine k_E ?_; first | refine e_seq ?_ | refine e_seq_exit ?_ | refine e_bk_exit ?_ | refine e_lp_exit ?_)))
  exact e_done rfl rfl _ PSub.refl ⟨A1, c1, ss, rfl, hs, rfl⟩
end Go.Proofs.Ytoknjpmlloikhaa
