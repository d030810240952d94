/- Layer 8: a run, walked. -/
import Derived.Test.YtoknjpmlloikhaaR9
namespace Go.Proofs.Ytoknjpmlloikhaa
set_option linter.unusedVariables false
set_option linter.unusedSimpArgs false
open Go Go.RowKit

section
variable {P : Program} {fn : Func} {f : Fr} {w w0 : World} {f0 : FP} {L : List HP}
theorem res_cell2 {t u : Tmp} {ty : TypeId} {ad : Addr} {v : Value} (hr : fn.results = #[.cell t ty, .tmp u]) (ht : Nat.blt t fn.ntmps = true) (hu : Nat.blt u fn.ntmps = true) (hx : f t = .pointer (some ad)) (hl : (loadVar ty ad).run P w = .ok v w) : resF P fn f w (.tuple #[v, f u]) := fun a ha => by
  have e : a.tmps[t]?.getD undef = .pointer (some ad) := by
    rw [ha.at_ t (by rw [← Nat.blt_eq]; exact ht)]; exact hx
  have e2 : a.tmps[u]?.getD undef = f u := by rw [ha.at_ u (by rw [← Nat.blt_eq]; exact hu)]; rfl
  simp [results, hr, e, e2, asAddr, hl]
/-- The first result lies in a block, the second doesn't. -/
theorem e_doneC2 {α : Type} [I : Enc α] {e : TypeId} {put : HP → List HP} {RR : Value → List HP → Prop} {t t2 : Tmp} {tt : TypeId} {q b : Nat} {u : α} (hr : fn.results = #[.cell t tt, .tmp t2]) (ht : Nat.blt t fn.ntmps = true) (ht2 : Nat.blt t2 fn.ntmps = true) [hT : CA P tt q] (hx : f t = .pointer (some ⟨b, 0, none⟩)) [h : PcB L b (var (I := I) e b u) put] (hq : q = I.sz) (L' : List HP) (hL : PSub w0 f0 L L') (hR : RR (.tuple #[.agg (I.enc u).toArray, f t2]) L') : sE w0 f0 (doneS P fn w0 f0 RR) .ret f L := by
  unfold doneS
  intro w H
  obtain ⟨i, hi, _⟩ := h.at_
  obtain ⟨g, hA, _⟩ := H.focus i hi
  refine ⟨_, res_cell2 hr ht ht2 hx (ldA hT.h (by rw [I.len, hq]) fun j v hj => ?_), L', hR, hL w H⟩
  rw [add_spot rfl]
  show w.cell? ⟨b, 0 + j, none⟩ = some v
  rw [Nat.zero_add, blk.cell hA j]; exact hj
end
theorem PSub.dropL {w0 : World} {f0 : FP} {R : List HP} : ∀ L' : List HP, PSub w0 f0 (L' ++ R) R
  | [] => PSub.refl
  | _ :: L' => PSub.tlD.trans (PSub.dropL L')
/-- The machine at the start, ahead of main. -/
def m00 (mem : List (List Int)) : Mch := ⟨[], 0, 0, [], 0, 0, mem, false⟩
def m0 (p : SsaProg) (mem : List (List Int)) : Mch := { m00 mem with fs := [⟨p.fMain.toNat, 0, 0, putAll (parsF p p.fMain.toNat) [] fun _ => none, 0⟩], deep := 1 }
def startA (p : SsaProg) (ins : List (Sl Int)) : List (List Int) := startM p.fArrays.xs ins p.fArrays.xs.length
def runOf (p : SsaProg) (ins : List (Sl Int)) (fuel : Int) : Out := runM p fuel (fuel.toNat + 1) (m0 p (startA p ins))
theorem m00_ok {p : SsaProg} {mem : List (List Int)} (h1 : mem.length = p.fArrays.xs.length) (h2 : ∀ r ∈ mem, 0 < r.length ∧ r.length ≤ 4096 ∧ ∀ x ∈ r, wfi x) : MchOk p (m00 mem) :=
  ⟨fun j hj => absurd hj (Nat.not_lt_zero j), fun j hj => absurd hj (Nat.not_lt_zero _), Nat.zero_le _, fun j hj => by
    have hj : j < mem.length := hj
    show 0 < (mem.getD j []).length ∧ (mem.getD j []).length ≤ 4096 ∧ ∀ x ∈ mem.getD j [], wfi x
    rw [List.getD_eq_getElem?_getD, List.getElem?_eq_getElem hj]
    exact h2 _ (List.getElem_mem hj), h1, Nat.le_refl _, fun l hl => by cases hl⟩
theorem startA_ok {p : SsaProg} {ins : List (Sl Int)} (hw : ∀ s ∈ ins, ∀ x ∈ s.xs, wfi x) : (startA p ins).length = p.fArrays.xs.length ∧ ∀ r ∈ startA p ins, 0 < r.length ∧ r.length ≤ 4096 ∧ ∀ x ∈ r, wfi x := by
  refine ⟨by unfold startA startM; simp, fun r hr => ?_⟩
  unfold startA startM at hr
  obtain ⟨j, hj, rfl⟩ := List.mem_map.1 hr
  rw [startRow_len]
  have := sizeW_le (a := nth p.fArrays.xs j)
  refine ⟨by omega, by omega, fun x hx => ?_⟩
  unfold startRow at hx
  rcases List.mem_append.1 hx with hx | hx
  · have hx := List.mem_of_mem_take hx
    unfold startW at hx
    split at hx
    · cases hx
    · split at hx
      · rename_i h1; exact hw _ (nth_mem h1) x hx
      · cases hx
  · rw [List.eq_of_mem_replicate hx]; exact wfi0
theorem main_facts {p : SsaProg} (h : checkB p = true) : 0 ≤ p.fMain ∧ p.fMain.toNat < p.fFuncs.xs.length ∧ (parsF p p.fMain.toNat).length = 0 := by
  unfold checkB mainB at h
  simp only [Bool.and_eq_true, decide_eq_true_eq] at h
  obtain ⟨⟨_, h1, h2, h3⟩, _⟩ := h
  exact ⟨h1, by omega, h3⟩
theorem m0_eq {p : SsaProg} {mem : List (List Int)} : enterM p (m00 mem) p.fMain.toNat [] 0 = some (m0 p mem) := rfl
theorem m0_ok {p : SsaProg} {mem : List (List Int)} (hG : GoodP p) (hc : checkB p = true) (h : MchOk p (m00 mem)) : MchOk p (m0 p mem) :=
  (enterM_ok hG h (main_facts hc).2.1 (fun x hx => by cases hx) wfi0 (fun h0 => absurd h0 (Nat.lt_irrefl _)) m0_eq).1
set_option maxHeartbeats 4000000 in
theorem run_spec (p : SsaProg) (hp : FewPr p) (ins : Sl (Sl Int)) (hi : ins.xs.length ≤ 100000) (fuel : Int) (hfu : fuel ≤ 2000000) :
    Spec Try.prog 10 [.agg (Enc.enc p).toArray, .slice ins.A ins.xs.length ins.c, .int .i64 fuel] [] (fun ok w => RdD ok w p ∧ RdD ok w ins)
      fun v L' => (checkB p = false ∧ v = .tuple #[.agg (Enc.enc (Enc.dflt : SimResult)).toArray, .int .i64 40] ∧ L' = []) ∨
        (checkB p = true ∧ runOf p ins.xs fuel = .spent ∧ v = .tuple #[.agg (Enc.enc (Enc.dflt : SimResult)).toArray, .int .i64 41] ∧ L' = []) ∨
        (checkB p = true ∧ ∃ m, runOf p ins.xs fuel = .out m ∧ MchOk p m ∧ ∃ Al cl Am cm ss, ss.map (·.xs) = m.mem ∧ v = .tuple #[.agg (Enc.enc (⟨m.val, m.trap, ⟨Al, cl, m.leaks⟩, m.steps, m.deep, ⟨Am, cm, ss⟩⟩ : SimResult)).toArray, .int .i64 0] ∧ L' = [own 86 Al m.leaks.length cl m.leaks, own 45 Am ss.length cm ss, rws 2 ss]) := by
  refine spec_of Try.func10 rfl rfl fun w0 f0 hR => ?_
  obtain ⟨hRp, hRi⟩ := hR
  have hG0 : checkB p = true → GoodP p := goodP_of
  (repeat' (first | refine s_assign ?_ | refine s_nil ?_ | (refine k_C ?_; first | refine s_seq ?_ | refine s_region ?_) | (refine k_E ?_; refine e_seq ?_) | (refine k_load ?_; refine s_ldBW rfl rfl ?_) | (refine s_alloc ?_; intro b) | (refine s_box _ rfl ?_; intro b)))
  refine s_call0 (check_spec p (fewP_pr hp)) rfl (fun w1 H => H.rdD (by infer_instance)) ?_
  rintro r L' ⟨rfl, rfl⟩
  cases hc : checkB p with
  | false =>
    rw [if_neg (by decide)]
    (repeat' (first | refine s_nil ?_ | (refine k_C ?_; first | refine s_seq ?_ | refine s_region ?_ | refine s_ift rfl ?_) | (refine k_E ?_; refine e_seq ?_) | (refine k_bin ?_; refine s_neq rfl rfl ?_)))
    refine s_bld (Enc.dflt : SimResult) (by kernel_rfl) ?_
    (repeat' (first | refine s_assign ?_ | refine s_nil ?_ | (refine k_C ?_; refine s_ret ?_) | (refine k_E ?_; first | refine e_seq ?_ | refine e_seq_ret ?_) | (refine k_store ?_; refine s_stW _ rfl rfl ?_)))
    exact e_doneC2 rfl rfl rfl rfl rfl [] (PSub.take [] rfl) (.inl ⟨rfl, rfl, rfl⟩)
  | true =>
    rw [if_pos rfl]
    have hG := goodP_of hc
    obtain ⟨hma1, hma2, hma3⟩ := main_facts hc
    have hmc : p.fMain = ((p.fMain.toNat : Nat) : Int) := by omega
    (repeat' (first | refine s_nil ?_ | (refine k_C ?_; first | refine s_seq ?_ | refine s_skip ?_ | refine s_iff rfl ?_) | (refine k_E ?_; refine e_seq ?_) | (refine k_bin ?_; refine s_neq rfl rfl ?_)))
    obtain ⟨b6, rfl⟩ : ∃ q, q = b := ⟨_, rfl⟩
    refine s_draw _ 7 foI (by kernel_rfl) PSub.refl fun hD => ?_
    refine d_rd (fuel := 5) #[true, true, true, false, false, false, false, false] [0, 1, 2] ?F1 hD (by kernel_rfl) ?hr1 ?hn1
    case hr1 =>
      change sO _ _ _ _ _ _ (_ :: _ :: _ :: []) _ _ _
      (repeat' (first | refine s_move ?_ | refine s_nil ?_ | (refine k_load ?_; refine s_ldBW rfl rfl ?_)))
      exact e_F
    refine d_all (fuel := 4) [3] (by kernel_rfl) ⟨?_, trivial⟩
    change sO _ _ _ _ _ _ (_ :: []) _ _ _
    refine s_call0 (start_spec p ins (by have := hp.a; omega) hi) rfl (fun w1 H => ⟨H.rdD (by infer_instance), H.rdD (by infer_instance)⟩) ?_
    rintro r L' ⟨Am, cm, ss0, rfl, hs0, rfl⟩
    (repeat' (first | refine s_nil ?_))
    refine e_sd (PSub.take [2, 2] rfl) ?_
    refine d_rd (fuel := 2) #[true, true, true, true, true, true, false, false] [4, 5] ?F2 hD (by kernel_rfl) ?hr2 ?hn2
    case hr2 =>
      change sO _ _ _ _ _ _ (_ :: _ :: []) _ _ _
      refine s_bld (⟨0, 0, ⟨none, 0, []⟩, 0, 0, ⟨Am, cm, ss0⟩⟩ : SimResult) (by kernel_rfl) ?_
      refine s_bld (⟨p, ⟨none, 0, []⟩, ⟨0, 0, ⟨none, 0, []⟩, 0, 0, ⟨Am, cm, ss0⟩⟩, false⟩ : SimMachine) (by kernel_rfl) ?_
      (repeat' (first | refine s_nil ?_))
      exact e_F
    refine d_all (fuel := 1) [6] (by kernel_rfl) ⟨?_, trivial⟩
    change sO _ _ _ _ _ _ (_ :: []) _ _ _
    (repeat' (first | refine s_nil ?_ | (refine s_box _ rfl ?_; intro b)))
    refine e_sd (PSub.take [3, 3] rfl) ?_
    refine d_end hD (by kernel_rfl) rfl ?_
    change sO _ _ _ _ _ _ (_ :: []) _ _ _
    (repeat' (first | refine s_move ?_ | refine s_assign ?_ | refine s_nil ?_ | (refine k_C ?_; first | refine s_seq ?_ | refine s_region ?_) | (refine k_E ?_; refine e_seq ?_) | (refine k_load ?_; refine s_ldB rfl rfl ?_) | (refine k_fld ?_; refine s_fldB rfl ?_)))
    obtain ⟨bm, rfl⟩ : ∃ q, q = b := ⟨_, rfl⟩
    have hms0 : ss0.map (·.xs) = startA p ins.xs := hs0
    have hmk : MchOk p (m00 (startA p ins.xs)) := by
      obtain ⟨h1, h2⟩ := startA_ok (p := p) (ins := ins.xs) fun s hs x hx => by
        obtain ⟨k, hk, hk2⟩ := List.mem_iff_getElem.1 hs
        rw [← nth_get hk] at hk2
        subst hk2
        obtain ⟨j, hj, rfl⟩ := List.mem_iff_getElem.1 hx
        rw [← nth_get hj]
        exact RdD.int (ok := okOf w0 f0) (w := w0) (by infer_instance)
      exact m00_ok h1 h2
    have hm0 : MchOk p (m0 p (startA p ins.xs)) := m0_ok hG hc hmk
    refine so_sub (L' := [var 70 bm (⟨p, ⟨none, 0, frsOf (m00 (startA p ins.xs)).fs (fun _ => 0)⟩, ⟨(m00 (startA p ins.xs)).val, (m00 (startA p ins.xs)).trap, ⟨none, 0, (m00 (startA p ins.xs)).leaks⟩, (m00 (startA p ins.xs)).steps, (m00 (startA p ins.xs)).deep, ⟨Am, cm, ss0⟩⟩, (m00 (startA p ins.xs)).fin⟩ : SimMachine), own 90 none (frsOf (m00 (startA p ins.xs)).fs (fun _ => 0)).length 0 (frsOf (m00 (startA p ins.xs)).fs (fun _ => 0)), bagG EW 3 (UF p (m00 (startA p ins.xs)).fs) (m00 (startA p ins.xs)).fs.length (fun _ => 0) (fun j => (frmN (m00 (startA p ins.xs)).fs j).vals), own 86 none (m00 (startA p ins.xs)).leaks.length 0 (m00 (startA p ins.xs)).leaks, own 45 Am ss0.length cm ss0, rws 2 ss0, var 33 b6 (Enc.dflt : SimResult)]) ((PSub.take [0, 0, 0, 0] rfl).trans ((PSub.nilOwn (α := ApiLeak) 86).trans ((PSub.bagG0 (E := EW) (kt := 3) (U := UF p []) (mi := fun _ => 0) (F := fun j => (frmN [] j).vals)).trans ((PSub.nilOwn (α := SimFrame) 90).trans (PSub.take [3, 0, 0, 0, 0, 0, 0] rfl))))) ?_
    refine s_call (L2 := [own 86 none (m00 (startA p ins.xs)).leaks.length 0 (m00 (startA p ins.xs)).leaks, own 45 Am ss0.length cm ss0, rws 2 ss0, var 33 b6 (Enc.dflt : SimResult)]) [0, 0, 0] (enter_spec bm p hp hG none 0 [] (fun _ => 0) ⟨0, 0, ⟨none, 0, []⟩, 0, 0, ⟨Am, cm, ss0⟩⟩ false p.fMain.toNat hma2 ⟨none, 0, []⟩ (by show (parsF p p.fMain.toNat).length ≤ 0; omega) 0 wfi0 (Nat.zero_le _)) (by show [_, Value.int .i64 p.fMain, _, _] = _; rw [hmc]; rfl) rfl (fun w1 f1 C => ⟨C.rd (by infer_instance), ⟨Dp.dflt _ _⟩⟩) ?_
    rintro v L' (⟨h1, rfl, rfl⟩ | ⟨h1, rfl, A3, c3, bv, rfl⟩)
    · exact absurd h1 (by decide)
    (repeat' (first | refine s_nil ?_ | (refine k_C ?_; first | refine s_seq ?_ | refine s_block ?_) | (refine k_E ?_; refine e_seq ?_)))
    refine s_sub (L' := [var 70 bm (⟨p, ⟨A3, c3, frsOf (m0 p (startA p ins.xs)).fs (updB (fun _ => 0) 0 bv)⟩, ⟨(m0 p (startA p ins.xs)).val, (m0 p (startA p ins.xs)).trap, ⟨none, 0, (m0 p (startA p ins.xs)).leaks⟩, (m0 p (startA p ins.xs)).steps, (m0 p (startA p ins.xs)).deep, ⟨Am, cm, ss0⟩⟩, (m0 p (startA p ins.xs)).fin⟩ : SimMachine), own 90 A3 (frsOf (m0 p (startA p ins.xs)).fs (updB (fun _ => 0) 0 bv)).length c3 (frsOf (m0 p (startA p ins.xs)).fs (updB (fun _ => 0) 0 bv)), bagG EW 3 (UF p (m0 p (startA p ins.xs)).fs) (m0 p (startA p ins.xs)).fs.length (updB (fun _ => 0) 0 bv) (fun j => (frmN (m0 p (startA p ins.xs)).fs j).vals), own 86 none (m0 p (startA p ins.xs)).leaks.length 0 (m0 p (startA p ins.xs)).leaks, own 45 Am ss0.length cm ss0, rws 2 ss0, var 33 b6 (Enc.dflt : SimResult)]) (PSub.take [0, 0, 0, 0, 0, 0, 0] (by kernel_rfl)) ?_
    refine s_loop (σ := Mch × Option Addr × Nat × (Nat → Nat) × Option Addr × Nat × List (Sl Int)) (fun q => [(2, .int .i64 fuel), (6, .pointer (some ⟨b6, 0, none⟩)), (8, .pointer (some ⟨bm, 0, none⟩))])
      (fun q => [var 70 bm (⟨p, ⟨q.2.1, q.2.2.1, frsOf q.1.fs q.2.2.2.1⟩, ⟨q.1.val, q.1.trap, ⟨q.2.2.2.2.1, q.2.2.2.2.2.1, q.1.leaks⟩, q.1.steps, q.1.deep, ⟨Am, cm, q.2.2.2.2.2.2⟩⟩, q.1.fin⟩ : SimMachine), own 90 q.2.1 (frsOf q.1.fs q.2.2.2.1).length q.2.2.1 (frsOf q.1.fs q.2.2.2.1), bagG EW 3 (UF p q.1.fs) q.1.fs.length q.2.2.2.1 (fun j => (frmN q.1.fs j).vals), own 86 q.2.2.2.2.1 q.1.leaks.length q.2.2.2.2.2.1 q.1.leaks, own 45 Am q.2.2.2.2.2.2.length cm q.2.2.2.2.2.2, rws 2 q.2.2.2.2.2.2, var 33 b6 (Enc.dflt : SimResult)])
      (fun q => MchOk p q.1 ∧ (q.1.fin = true ∨ 0 < q.1.fs.length) ∧ q.2.2.2.2.2.2.map (·.xs) = q.1.mem ∧ q.1.steps ≤ fuel.toNat ∧ runM p fuel (fuel.toNat + 1 - q.1.steps) q.1 = runOf p ins.xs fuel)
      (fun q => fuel.toNat + 1 - q.1.steps) ((m0 p (startA p ins.xs)), A3, c3, updB (fun _ => 0) 0 bv, none, 0, ss0) (by repeat (first | exact trivial | refine ⟨rfl, ?_⟩)) ⟨hm0, .inr Nat.zero_lt_one, hms0, Nat.zero_le _, rfl⟩ PSub.refl ?_
    rintro g ⟨m, Af, cf, mi, Al, cl, ss⟩ ⟨hm, hfs, hss, hst, hrun⟩
    dsimp only at hm hfs hss hst hrun ⊢
    have hle : m.leaks.length ≤ m.steps := hm.leaks
    (repeat' (first | refine s_move ?_ | refine s_nil ?_ | (refine k_C ?_; first | refine s_seq ?_ | refine s_region ?_) | (refine k_E ?_; refine e_seq ?_) | (refine k_load ?_; refine s_ldB rfl rfl ?_) | (refine k_fld ?_; refine s_fldB rfl ?_) | refine s_not rfl ?_ | refine s_nilck rfl ?_))
    refine s_if rfl ?_ ?_ <;> intro hfin
    · have hfin : m.fin = false := by simpa using hfin
      have h0 : 0 < m.fs.length := by rcases hfs with h | h; · rw [hfin] at h; cases h
                                      exact h
      obtain ⟨m2, hm2⟩ : ∃ x, x = { m with steps := m.steps + 1 } := ⟨_, rfl⟩
      have hrun2 : ¬ fuel ≤ m.steps → runOf p ins.xs fuel = match stepM p m2 with
          | none => Out.spent
          | some m' => runM p fuel (fuel.toNat + 1 - (m.steps + 1)) m' := fun h => by
        rw [← hrun, show fuel.toNat + 1 - m.steps = (fuel.toNat + 1 - (m.steps + 1)) + 1 by omega, hm2]
        show (if m.fin = true then _ else if fuel ≤ m.steps then _ else _) = _
        rw [hfin, if_neg (by decide), if_neg h]
        cases stepM p { m with steps := m.steps + 1 } <;> rfl
      (repeat' (first | refine s_move ?_ | refine s_nil ?_ | (refine k_C ?_; first | refine s_seq ?_ | refine s_region ?_ | refine s_skip ?_ | refine s_block ?_ | (refine s_ifd rfl ?_ ?_ <;> intro hc <;> try (exfalso; omega))) | (refine k_E ?_; refine e_seq ?_) | (refine k_load ?_; refine s_ldB rfl rfl ?_) | (refine k_bin ?_; first | refine s_add1 rfl rfl om ?_ | refine s_geq rfl rfl ?_) | (refine k_fld ?_; refine s_fldB rfl ?_) | refine s_nilck rfl ?_))
      · have hge : fuel ≤ m.steps := hc
        refine s_bld (Enc.dflt : SimResult) (by kernel_rfl) ?_
        (repeat' (first | refine s_assign ?_ | refine s_nil ?_ | (refine k_C ?_; refine s_ret ?_) | (refine k_E ?_; first | refine e_seq ?_ | refine e_seq_ret ?_ | refine e_bk_ret ?_ | refine e_lp_ret ?_) | (refine k_store ?_; refine s_stW _ rfl rfl ?_)))
        refine e_doneC2 rfl rfl rfl rfl rfl [] (PSub.take [] rfl) (.inr (.inl ⟨rfl, ?_, rfl, rfl⟩))
        rw [← hrun, show fuel.toNat + 1 - m.steps = (fuel.toNat - m.steps) + 1 by omega]
        show (if m.fin = true then _ else if fuel ≤ m.steps then _ else _) = _
        rw [hfin, if_neg (by decide), if_pos hge]
      · have hlt : ¬ fuel ≤ m.steps := by assumption
        have hst1 : (m.steps : Int) + 1 = ((m.steps + 1 : Nat) : Int) := by omega
        refine s_stB (⟨p, ⟨Af, cf, frsOf m.fs mi⟩, ⟨m.val, m.trap, ⟨Al, cl, m.leaks⟩, ((m.steps + 1 : Nat) : Int), m.deep, ⟨Am, cm, ss⟩⟩, m.fin⟩ : SimMachine) rfl rfl (by rw [← hst1]; rfl) (by decide) ?_
        (repeat' (first | refine s_move ?_ | refine s_nil ?_ | (refine k_C ?_; first | refine s_seq ?_ | refine s_region ?_) | (refine k_E ?_; refine e_seq ?_)))
        have hm2k : MchOk p m2 := by rw [hm2]; exact ⟨hm.fr, hm.calls, hm.few, hm.mem, hm.memN, by show m.leaks.length ≤ m.steps + 1; omega, hm.lw⟩
        refine s_call (L1 := [var 70 bm (⟨p, ⟨Af, cf, frsOf m2.fs mi⟩, ⟨m2.val, m2.trap, ⟨Al, cl, m2.leaks⟩, m2.steps, m2.deep, ⟨Am, cm, ss⟩⟩, m2.fin⟩ : SimMachine), own 90 Af (frsOf m2.fs mi).length cf (frsOf m2.fs mi), bagG EW 3 (UF p m2.fs) m2.fs.length mi (fun j => (frmN m2.fs j).vals), own 86 Al m2.leaks.length cl m2.leaks, own 45 Am ss.length cm ss, rws 2 ss]) (L2 := [var 33 b6 (Enc.dflt : SimResult)]) [0, 0, 0, 0, 0, 0] (step_spec bm p hp hG m2 hm2k (by rw [hm2]; exact h0) (by rw [hm2]; show m.steps + 1 ≤ _; omega) Af cf mi Al cl Am cm ss (by rw [hm2]; exact hss)) rfl (by rw [hm2]; rfl) (fun w1 f1 C => C.rd (by infer_instance)) ?_
        rintro v L' (⟨hd, rfl⟩ | ⟨m3, hd, rfl, Af3, cf3, mi3, Al3, cl3, ss3, hs3, rfl⟩)
        · refine so_sub (PSub.dropL L') ?_
          (repeat' (first | refine s_nil ?_ | (refine k_C ?_; first | refine s_seq ?_ | refine s_region ?_ | refine s_ift rfl ?_) | (refine k_E ?_; refine e_seq ?_) | refine s_not rfl ?_))
          refine s_bld (Enc.dflt : SimResult) (by kernel_rfl) ?_
          (repeat' (first | refine s_assign ?_ | refine s_nil ?_ | (refine k_C ?_; refine s_ret ?_) | (refine k_E ?_; first | refine e_seq ?_ | refine e_seq_ret ?_ | refine e_bk_ret ?_ | refine e_lp_ret ?_) | (refine k_store ?_; refine s_stW _ rfl rfl ?_)))
          refine e_doneC2 rfl rfl rfl rfl rfl [] (PSub.take [] rfl) (.inr (.inl ⟨rfl, ?_, rfl, rfl⟩))
          rw [hrun2 hlt, hd]
        · (repeat' (first | refine s_nil ?_ | (refine k_C ?_; first | refine s_skip ?_ | refine s_iff rfl ?_) | (refine k_E ?_; first | refine e_seq ?_ | refine e_bk ?_) | refine s_not rfl ?_))
          refine e_lp (m3, Af3, cf3, mi3, Al3, cl3, ss3) (by repeat (first | exact trivial | refine ⟨rfl, ?_⟩)) ?_ ?_ (PSub.take [0, 0, 0, 0, 0, 0, 0] rfl)
          · obtain ⟨h1, h2, h3⟩ := stepM_ok hG (wfP_of hRp) hm2k (by rw [hm2]; exact h0) (by rw [hm2]; show m.leaks.length + 1 ≤ m.steps + 1; omega) hd
            have h4 : m3.steps = m.steps + 1 := by rw [h2, hm2]
            refine ⟨h1, h3, hs3, by show m3.steps ≤ _; omega, ?_⟩
            rw [hrun2 hlt, hd, h4]
          · obtain ⟨h1, h2, h3⟩ := stepM_ok hG (wfP_of hRp) hm2k (by rw [hm2]; exact h0) (by rw [hm2]; show m.leaks.length + 1 ≤ m.steps + 1; omega) hd
            have h4 : m3.steps = m.steps + 1 := by rw [h2, hm2]
            show fuel.toNat + 1 - m3.steps < fuel.toNat + 1 - m.steps
            omega
    · have hfin : m.fin = true := by simpa using hfin
      (repeat' (first | refine s_move ?_ | refine s_assign ?_ | refine s_nil ?_ | (refine k_C ?_; first | refine s_seq ?_ | refine s_region ?_ | refine s_exit ?_ | refine s_ret ?_) | (refine k_E ?_; first | refine e_seq ?_ | refine e_seq_exit ?_ | refine e_bk_exit ?_ | refine e_lp_exit ?_) | (refine k_load ?_; refine s_ldBA rfl (by decide) ?_) | (refine k_fld ?_; refine s_fldB rfl ?_) | (refine k_store ?_; refine s_stW _ rfl rfl ?_) | refine s_nilck rfl ?_))
      refine e_doneC2 rfl rfl rfl rfl rfl _ (PSub.take [3, 3, 3] rfl) (.inr (.inr ⟨rfl, m, ?_, hm, Al, cl, Am, cm, ss, hss, rfl, rfl⟩))
      rw [← hrun, show fuel.toNat + 1 - m.steps = (fuel.toNat - m.steps) + 1 by omega]
      show (if m.fin = true then _ else _) = _
      rw [if_pos hfin]
end Go.Proofs.Ytoknjpmlloikhaa
