/- Layer 12: many maps in one piece; what the solver is; a value's label raised. -/
import Derived.Test.YtomhieglgfjloaaQ2
namespace Go.Proofs.Ytomhieglgfjloaa
set_option linter.unusedVariables false
set_option linter.unusedSimpArgs false
open Go Go.RowKit

def updB {α : Type} (F : Nat → α) (b : Nat) (x : α) : Nat → α := fun j => if j = b then x else F j
theorem updB_same {α : Type} {F : Nat → α} {b : Nat} {x : α} : updB F b x b = x := if_pos rfl
theorem updB_ne {α : Type} {F : Nat → α} {b j : Nat} {x : α} (h : j ≠ b) : updB F b x j = F j := if_neg h
theorem updB_self {α : Type} {F : Nat → α} {b : Nat} : updB F b (F b) = F := by funext j; unfold updB; split <;> simp [*]
section
variable {e kt : TypeId} {α : Type} (E : EK Try.prog e α) (kt : TypeId)
/-- Many maps: the first k. -/
noncomputable def bagG (U : Nat → Nat) (k : Nat) (mi : Nat → Nat) (F : Nat → Int → Option α) : HP := star ((List.range k).map fun j => mp E kt (mi j) (U j) (F j))
/-- .. one of which is taken out. -/
noncomputable def bagGX (U : Nat → Nat) (k : Nat) (mi : Nat → Nat) (F : Nat → Int → Option α) (b : Nat) : HP := star (((List.range k).map fun j => mp E kt (mi j) (U j) (F j)).eraseIdx b)
end
section
variable {e kt : TypeId} {α : Type} {E : EK Try.prog e α} {w0 : World} {f0 : FP} {L : List HP} {k : Nat} {U mi : Nat → Nat} {F : Nat → Int → Option α}
theorem PSub.bagG0 : PSub w0 f0 L (bagG E kt U 0 mi F :: L) := PSub.starNil
theorem PSub.bagGnew {b : Nat} {G : Int → Option α} : PSub w0 f0 (mp E kt b (U k) G :: bagG E kt U k mi F :: L) (bagG E kt U (k + 1) (updB mi k b) (updB F k G) :: L) := by
  have h := PSub.starNew (w0 := w0) (f0 := f0) (L := L) (ps := (List.range k).map fun j => mp E kt (mi j) (U j) (F j)) (R := mp E kt b (U k) G)
  have e : bagG E kt U (k + 1) (updB mi k b) (updB F k G) = star (((List.range k).map fun j => mp E kt (mi j) (U j) (F j)) ++ [mp E kt b (U k) G]) := by
    unfold bagG
    rw [List.range_succ, List.map_append, List.map_singleton, updB_same, updB_same]
    congr 2
    refine List.map_congr_left fun j hj => ?_
    have := List.mem_range.1 hj
    rw [updB_ne (by omega), updB_ne (by omega)]
  rw [e]; exact h
theorem PSub.bagGout {b : Nat} (hb : b < k) : PSub w0 f0 (bagG E kt U k mi F :: L) (mp E kt (mi b) (U b) (F b) :: bagGX E kt U k mi F b :: L) := PSub.starOut (by rw [List.getElem?_map, List.getElem?_range hb]; rfl)
theorem PSub.bagGin {b : Nat} {G : Int → Option α} (hb : b < k) : PSub w0 f0 (mp E kt (mi b) (U b) G :: bagGX E kt U k mi F b :: L) (bagG E kt U k mi (updB F b G) :: L) := by
  have h := PSub.starIn (w0 := w0) (f0 := f0) (L := L) (ps := (List.range k).map fun j => mp E kt (mi j) (U j) (F j)) (R := mp E kt (mi b) (U b) G) (j := b) (by simpa using hb)
  have e : bagG E kt U k mi (updB F b G) = star (((List.range k).map fun j => mp E kt (mi j) (U j) (F j)).set b (mp E kt (mi b) (U b) G)) := by
    unfold bagG
    congr 1
    apply List.ext_getElem?
    intro j
    rw [List.getElem?_map]
    by_cases e : j = b
    · subst e
      rw [List.getElem?_set_self (by simpa using hb), List.getElem?_range hb]
      simp only [Option.map_some, updB_same]
    · rw [List.getElem?_set_ne (Ne.symm e), List.getElem?_map]
      rcases Nat.lt_or_ge j k with h | h
      · rw [List.getElem?_range h]; simp only [Option.map_some, updB_ne e]
      · rw [List.getElem?_eq_none (by simpa using h)]; rfl
  rw [e]; exact h
theorem PSub.bagGback {b : Nat} (hb : b < k) : PSub w0 f0 (mp E kt (mi b) (U b) (F b) :: bagGX E kt U k mi F b :: L) (bagG E kt U k mi F :: L) := by
  have h := PSub.bagGin (w0 := w0) (f0 := f0) (L := L) (U := U) (mi := mi) (F := F) (G := F b) (E := E) (kt := kt) hb
  rw [updB_self] at h
  exact h
end
/-- The labels: of values (by functions), of arrays, of what functions return; whether one was raised. -/
structure LSt where
  V : Nat → Int → Option Int
  A : List Int
  Rt : List Int
  t : Bool
def labL (s : LSt) : Lb := fun g => if g.1 = 0 then (s.V g.2.1 g.2.2).getD 0 else if g.2.2 ≠ 0 then 0 else if g.1 = 1 then nth s.A g.2.1 else if g.1 = 2 then nth s.Rt g.2.1 else 0
def valL (s : LSt) (f : Nat) (v : Int) (to : Int) : LSt := ⟨updB s.V f (upd (s.V f) v (some (max ((s.V f v).getD 0) to))), s.A, s.Rt, s.t || decide ((s.V f v).getD 0 < to)⟩
def arrL (s : LSt) (i : Nat) (to : Int) : LSt := ⟨s.V, s.A.set i (max (nth s.A i) to), s.Rt, s.t || decide (nth s.A i < to)⟩
def retL (s : LSt) (f : Nat) (to : Int) : LSt := ⟨s.V, s.A, s.Rt.set f (max (nth s.Rt f) to), s.t || decide (nth s.Rt f < to)⟩
theorem labL_v {s : LSt} {f : Nat} {v : Int} : labL s (0, f, v) = (s.V f v).getD 0 := rfl
theorem labL_a {s : LSt} {i : Nat} : labL s (1, i, 0) = nth s.A i := rfl
theorem labL_r {s : LSt} {f : Nat} : labL s (2, f, 0) = nth s.Rt f := rfl
theorem valL_app {s : LSt} {f : Nat} {v to : Int} {e : Lb → Int} (he : e (labL s) = to) : (labL (valL s f v to), (valL s f v to).t) = appR (labL s, s.t) ⟨(0, f, v), e⟩ := by
  unfold appR
  refine Prod.ext ?_ (by show _ = (s.t || decide (labL s (0, f, v) < e (labL s))); rw [he]; rfl)
  funext g
  obtain ⟨i, j, k⟩ := g
  show labL (valL s f v to) (i, j, k) = updT (labL s) (0, f, v) (max (labL s (0, f, v)) (e (labL s))) (i, j, k)
  rw [he]
  unfold updT
  split
  · rename_i h
    cases h
    show (updB s.V f (upd (s.V f) v (some _)) f v).getD 0 = _
    rw [updB_same]
    simp [upd, labL]
  · rename_i h
    unfold labL valL
    by_cases hi : i = 0
    · subst hi
      simp only [if_true]
      by_cases hj : j = f
      · subst hj
        rw [updB_same]
        have hk : k ≠ v := fun e => h (by rw [e])
        simp [upd, hk]
      · rw [updB_ne hj]
    · simp only [if_neg hi]
theorem arrL_app {s : LSt} {i : Nat} {to : Int} {e : Lb → Int} (hi : i < s.A.length) (he : e (labL s) = to) : (labL (arrL s i to), (arrL s i to).t) = appR (labL s, s.t) ⟨(1, i, 0), e⟩ := by
  unfold appR
  refine Prod.ext ?_ (by show _ = (s.t || decide (labL s (1, i, 0) < e (labL s))); rw [he]; rfl)
  funext g
  obtain ⟨a, j, k⟩ := g
  show labL (arrL s i to) (a, j, k) = updT (labL s) (1, i, 0) (max (labL s (1, i, 0)) (e (labL s))) (a, j, k)
  rw [he]
  unfold updT
  split
  · rename_i h
    cases h
    show nth (s.A.set i _) i = _
    rw [nth_set hi, if_pos rfl]; rfl
  · rename_i h
    unfold labL arrL
    by_cases h0 : a = 0
    · simp only [if_pos h0]
    · simp only [if_neg h0]
      by_cases hk : k = 0
      · by_cases h1 : a = 1
        · have hj : j ≠ i := fun e => h (by rw [h1, e, hk])
          simp only [h1, if_true]
          rw [nth_set hi, if_neg hj]
        · simp only [if_neg h1]
      · simp [hk]
theorem retL_app {s : LSt} {i : Nat} {to : Int} {e : Lb → Int} (hi : i < s.Rt.length) (he : e (labL s) = to) : (labL (retL s i to), (retL s i to).t) = appR (labL s, s.t) ⟨(2, i, 0), e⟩ := by
  unfold appR
  refine Prod.ext ?_ (by show _ = (s.t || decide (labL s (2, i, 0) < e (labL s))); rw [he]; rfl)
  funext g
  obtain ⟨a, j, k⟩ := g
  show labL (retL s i to) (a, j, k) = updT (labL s) (2, i, 0) (max (labL s (2, i, 0)) (e (labL s))) (a, j, k)
  rw [he]
  unfold updT
  split
  · rename_i h
    cases h
    show nth (s.Rt.set i _) i = _
    rw [nth_set hi, if_pos rfl]; rfl
  · rename_i h
    unfold labL retL
    by_cases h0 : a = 0
    · simp only [if_pos h0]
    · simp only [if_neg h0]
      by_cases hk : k = 0
      · by_cases h1 : a = 1
        · simp only [if_pos h1]
        · simp only [if_neg h1]
          by_cases h2 : a = 2
          · have hj : j ≠ i := fun e => h (by rw [h2, e, hk])
            simp only [if_pos h2]
            rw [nth_set hi, if_neg hj]
          · simp only [if_neg h2]
      · simp [hk]
/-- What of the solver stays as it is. -/
structure TC where
  b : Nat
  p : SsaProg
  xv : Sl Mr
  Aa : Option Addr
  ca : Nat
  Ar : Option Addr
  cr : Nat
  xc : Sl Mr
  xw : Sl Bool
  mv : Nat → Nat
  mc : Nat → Nat
  C : Nat → Int → Option Bool
  NC : Nat → Nat
  n : Nat
  K : Nat → List Int
def TC.cut (k : TC) (f : Nat) (v : Int) : Bool := (k.C f v).getD false
noncomputable abbrev solL (k : TC) (s : LSt) : List HP := [var 78 k.b (⟨k.p, ⟨k.xv, ⟨k.Aa, k.ca, s.A⟩, ⟨k.Ar, k.cr, s.Rt⟩, k.xc⟩, k.xw, s.t⟩ : TaintSolver), own 56 k.xv.A k.xv.xs.length k.xv.c k.xv.xs, own 42 k.Aa s.A.length k.ca s.A, own 42 k.Ar s.Rt.length k.cr s.Rt, own 29 k.xc.A k.xc.xs.length k.xc.c k.xc.xs, own 4 k.xw.A k.xw.xs.length k.xw.c k.xw.xs, bagG EL 3 (fun j => (k.K j).length) k.n k.mv s.V, bagG EB 3 k.NC k.n k.mc k.C]
structure TC.Ok (k : TC) : Prop where
  n : k.n ≤ 1000
  vl : k.xv.xs.length = k.n
  v : ∀ j, j < k.n → (nth k.xv.xs j).b = some (k.mv j)
  cl : k.xc.xs.length = k.n
  c : ∀ j, j < k.n → (nth k.xc.xs j).b = some (k.mc j)
  K : ∀ j, j < k.n → (k.K j).length ≤ 1000000
structure LSt.Ok (k : TC) (s : LSt) : Prop where
  keys : ∀ f, f < k.n → ∀ v, s.V f v ≠ none → v ∈ k.K f
  v : ∀ f v x, s.V f v = some x → 0 ≤ x ∧ x ≤ 2
  a : ∀ x ∈ s.A, 0 ≤ x ∧ x ≤ 2
  r : ∀ x ∈ s.Rt, 0 ≤ x ∧ x ≤ 2
theorem LSt.Ok.lv {k : TC} {s : LSt} (h : s.Ok k) {f : Nat} (hf : f < k.n) (v : Int) : 0 ≤ (s.V f v).getD 0 ∧ (s.V f v).getD 0 ≤ 2 := by
  cases e : s.V f v with
  | none => exact ⟨Int.le_refl _, by decide⟩
  | some x => exact h.v f v x e
theorem lab_nth {xs : List Int} (h : ∀ x ∈ xs, 0 ≤ x ∧ x ≤ 2) (i : Nat) : 0 ≤ nth xs i ∧ nth xs i ≤ 2 := by
  rcases Nat.lt_or_ge i xs.length with hi | hi
  · exact h _ (nth_mem hi)
  · rw [nth_out hi]; exact ⟨Int.le_refl _, by decide⟩
theorem LSt.Ok.val {k : TC} {s : LSt} (h : s.Ok k) {f : Nat} {v to : Int} (hv : v ∈ k.K f) (hto : 0 ≤ to ∧ to ≤ 2) : (valL s f v to).Ok k := by
  refine ⟨fun g hg u hu => ?_, fun g u x hx => ?_, h.a, h.r⟩
  · have hu : updB s.V f (upd (s.V f) v (some _)) g u ≠ none := hu
    by_cases e : g = f
    · subst e
      rw [updB_same] at hu
      unfold upd at hu
      split at hu
      · rename_i e; rw [e]; exact hv
      · exact h.keys g hg u hu
    · rw [updB_ne e] at hu
      exact h.keys g hg u hu
  · have hx : updB s.V f (upd (s.V f) v (some (max ((s.V f v).getD 0) to))) g u = some x := hx
    by_cases e : g = f
    · subst e
      rw [updB_same] at hx
      unfold upd at hx
      split at hx
      · have h0 : 0 ≤ (s.V g v).getD 0 ∧ (s.V g v).getD 0 ≤ 2 := by
          cases e : s.V g v with
          | none => exact ⟨Int.le_refl _, by decide⟩
          | some x => exact h.v g v x e
        cases hx
        omega
      · exact h.v g u x hx
    · rw [updB_ne e] at hx
      exact h.v g u x hx
theorem set_in {xs : List Int} (h : ∀ x ∈ xs, 0 ≤ x ∧ x ≤ 2) {i : Nat} {to : Int} (hto : 0 ≤ to ∧ to ≤ 2) : ∀ x ∈ xs.set i (max (nth xs i) to), 0 ≤ x ∧ x ≤ 2 := fun x hx => by
  rcases List.mem_or_eq_of_mem_set hx with hx | rfl
  · exact h x hx
  · have := lab_nth h i
    omega
theorem LSt.Ok.arr {k : TC} {s : LSt} (h : s.Ok k) {i : Nat} {to : Int} (hto : 0 ≤ to ∧ to ≤ 2) : (arrL s i to).Ok k := ⟨h.keys, h.v, set_in h.a hto, h.r⟩
theorem LSt.Ok.ret {k : TC} {s : LSt} (h : s.Ok k) {i : Nat} {to : Int} (hto : 0 ≤ to ∧ to ≤ 2) : (retL s i to).Ok k := ⟨h.keys, h.v, h.a, set_in h.r hto⟩
theorem PSub.solOut {w0 : World} {f0 : FP} {k : TC} {s : LSt} {f : Nat} (hf : f < k.n) : PSub w0 f0 (solL k s) [mp EL 3 (k.mv f) (k.K f).length (s.V f), mp EB 3 (k.mc f) (k.NC f) (k.C f), var 78 k.b (⟨k.p, ⟨k.xv, ⟨k.Aa, k.ca, s.A⟩, ⟨k.Ar, k.cr, s.Rt⟩, k.xc⟩, k.xw, s.t⟩ : TaintSolver), own 56 k.xv.A k.xv.xs.length k.xv.c k.xv.xs, own 42 k.Aa s.A.length k.ca s.A, own 42 k.Ar s.Rt.length k.cr s.Rt, own 29 k.xc.A k.xc.xs.length k.xc.c k.xc.xs, own 4 k.xw.A k.xw.xs.length k.xw.c k.xw.xs, bagGX EL 3 (fun j => (k.K j).length) k.n k.mv s.V f, bagGX EB 3 k.NC k.n k.mc k.C f] :=
  (PSub.take [6, 0, 0, 0, 0, 0, 0, 0] rfl).trans ((PSub.bagGout hf).trans ((PSub.take [8, 0, 0, 0, 0, 0, 0, 0, 0] rfl).trans ((PSub.bagGout hf).trans (PSub.take [2, 0, 2, 2, 2, 2, 2, 2, 1, 0] rfl))))
theorem PSub.solIn {w0 : World} {f0 : FP} {k : TC} {s : LSt} {f : Nat} (hf : f < k.n) : PSub w0 f0 [mp EL 3 (k.mv f) (k.K f).length (s.V f), mp EB 3 (k.mc f) (k.NC f) (k.C f), var 78 k.b (⟨k.p, ⟨k.xv, ⟨k.Aa, k.ca, s.A⟩, ⟨k.Ar, k.cr, s.Rt⟩, k.xc⟩, k.xw, s.t⟩ : TaintSolver), own 56 k.xv.A k.xv.xs.length k.xv.c k.xv.xs, own 42 k.Aa s.A.length k.ca s.A, own 42 k.Ar s.Rt.length k.cr s.Rt, own 29 k.xc.A k.xc.xs.length k.xc.c k.xc.xs, own 4 k.xw.A k.xw.xs.length k.xw.c k.xw.xs, bagGX EL 3 (fun j => (k.K j).length) k.n k.mv s.V f, bagGX EB 3 k.NC k.n k.mc k.C f] (solL k s) :=
  (PSub.take [0, 7, 0, 0, 0, 0, 0, 0, 0, 0] rfl).trans ((PSub.bagGback (E := EL) (kt := 3) (U := fun j => (k.K j).length) (mi := k.mv) (F := s.V) hf).trans ((PSub.take [1, 7, 0, 0, 0, 0, 0, 0, 0] rfl).trans ((PSub.bagGback (E := EB) (kt := 3) (U := k.NC) (mi := k.mc) (F := k.C) hf).trans (PSub.take [2, 2, 2, 2, 2, 2, 1, 0] rfl))))
theorem eb_z {o : Option Bool} {h} : o.getD (ekBool (P := Try.prog) (e := 4) h).zero = o.getD false := rfl
theorem el_z {o : Option Int} {h} : o.getD (ekInt (P := Try.prog) (e := 42) (q := .i64) h).zero = o.getD 0 := rfl
set_option maxHeartbeats 4000000 in
theorem val_spec (k : TC) (hk : k.Ok) (s : LSt) (hs : s.Ok k) (f : Nat) (hf : f < k.n) (v to : Int) (hv : v ∈ k.K f) (hvw : wfi v) (hto : 0 ≤ to ∧ to ≤ 2) :
    Spec Try.prog 36 [.pointer (some ⟨k.b, 0, none⟩), .int .i64 (f : Nat), .int .i64 v, .int .i64 to] (solL k s) (fun _ _ => True) fun r L' => L' = solL k (valL s f v (if k.cut f v = true then stays to else to)) := by
  refine spec_of Try.func36 rfl rfl fun w0 f0 _ => ?_
  have hvl := hk.vl
  have hcl := hk.cl
  have hkl := hk.K f hf
  refine s_sub (PSub.solOut hf) ?_
  have hvb := hk.v f hf
  have hcb := hk.c f hf
  (repeat' (first | refine s_move ?_ | refine s_assign ?_ | refine s_nil ?_ | (refine k_C ?_; first | refine s_seq ?_ | refine s_region ?_ | refine s_stillP foI rfl (by kernel_rfl) ?_ | refine s_skip ?_ | refine s_block ?_ | refine s_exit ?_ | refine s_ret ?_ | refine s_ift rfl ?_ | refine s_iff rfl ?_) | (refine k_E ?_; first | refine e_seq ?_ | refine e_seq_ret ?_ | refine e_seq_exit ?_ | refine e_bk_exit ?_ | refine e_bk_ret ?_ | refine e_bk ?_ | refine e_bk_out rfl ?_ | refine e_lp_ret ?_ | refine e_lp_exit ?_ | refine e_ct_ret ?_ | refine e_ct_exit ?_) | (refine k_load ?_; first | refine s_ldB rfl rfl ?_ | refine s_ldBW rfl rfl ?_ | refine s_ldBA rfl (by decide) ?_ | refine s_ldRB rfl rfl ?_ | refine s_ldRBA rfl (by decide) ?_ | refine s_ld rfl om rfl ?_ | refine s_ldF rfl om rfl ?_ | refine s_ldA rfl om rfl ?_ | refine s_ldFA rfl om (by decide) ?_ | refine s_ldR rfl om rfl ?_ | refine s_ldS rfl rfl om rfl ?_ | refine s_ldSF rfl rfl om rfl ?_ | refine s_ldSA rfl rfl om rfl ?_ | refine s_ldSFA rfl rfl om (by decide) ?_) | (refine k_bin ?_; first | refine s_lss rfl rfl ?_ | refine s_add1 rfl rfl om ?_ | refine s_add64 rfl rfl om ?_ | refine s_sub64 rfl rfl om ?_ | refine s_eql rfl rfl ?_ | refine s_neq rfl rfl ?_ | refine s_gtr rfl rfl ?_ | refine s_geq rfl rfl ?_ | refine s_leq rfl rfl ?_ | refine s_beq rfl rfl ?_ | refine s_pnil rfl rfl ?_ | refine s_snil rfl rfl ?_ | refine s_bne rfl rfl ?_ | refine s_rem rfl rfl om ?_ | refine s_mul64 rfl rfl om ?_ | refine s_xor1 rfl rfl om ?_ | refine s_xor1I rfl rfl om om ?_ | refine s_shr rfl rfl om ?_ | refine s_shl1 rfl rfl om ?_ | refine s_and1 rfl rfl om ?_ | refine s_orN rfl rfl om om ?_) | (refine k_fld ?_; first | refine s_fld rfl ?_ | refine s_fldB rfl ?_) | (refine k_idx ?_; first | refine s_idx rfl rfl om ?_ | refine s_idxI rfl rfl om om ?_ | refine s_idxR rfl rfl om ?_ | refine s_idxRI rfl rfl om om ?_ | refine s_idxS rfl rfl om ?_ | refine s_idxSI rfl rfl om om ?_ | refine s_idxV (j := 0) rfl rfl (by decide) ?_ | refine s_idxV rfl rfl (by decide) ?_) | (refine k_store ?_; first | refine s_stW _ rfl rfl ?_ | refine s_st _ rfl rfl om ?_ | refine s_stB _ rfl rfl rfl (by decide) ?_) | (refine k_call ?_; first | refine s_len rfl ?_ | refine s_cap rfl ?_ | refine s_min rfl rfl ?_ | refine s_max rfl rfl ?_ | (refine s_appS rfl rfl om ?_; intro A c) | (refine s_appO rfl rfl om ?_; intro A c)) | (refine k_guard ?_; first | refine s_on rfl rfl ?_ | refine s_off rfl rfl rfl rfl ?_ | refine s_offU rfl rfl rfl rfl ?_ | (refine s_casesd rfl rfl ?_ ?_ <;> intro hc <;> try (exfalso; omega)) | (refine s_casesn rfl rfl ?_ ?_ <;> intro hc <;> try (exfalso; omega)) | (refine s_cases rfl rfl ?_ ?_ <;> intro hc)) | refine s_func (v1 := []) (v2 := [.pointer _]) rfl rfl ?_ | refine s_func (v1 := []) (v2 := []) rfl rfl ?_ | refine s_putW (yv := true) rfl rfl rfl trivial om ?_ | refine s_putIW (yv := true) rfl rfl rfl trivial om ?_ | refine s_lookW rfl rfl ?_ | refine s_lookSW rfl rfl ?_ | (refine s_alloc ?_; intro b) | (refine s_box _ rfl ?_; intro b) | (refine s_make rfl rfl om ?_; intro b) | (refine s_makeI rfl rfl om om ?_; intro b) | refine s_cutH rfl rfl om om ?_ | (refine s_cutL rfl rfl om ?_; intro A) | refine s_not rfl ?_ | refine s_pick rfl ?_ | refine s_convU rfl om ?_ | refine s_convUI rfl om om ?_ | refine s_extract rfl rfl ?_ | refine s_nilck rfl ?_ | (refine s_app1 _ (fun _ => rfl) rfl om ?_; intro v A c) | (refine s_app1N _ (fun _ => rfl) rfl (by decide) ?_; intro v A c) | (refine s_mkmapB ?_; intro b) | (refine s_mkmapI ?_; intro b) | (refine s_lit [] rfl (by decide) rfl ?_; intro b) | (refine s_lit [_] rfl (by decide) rfl ?_; intro b) | (refine s_lit [_, _] rfl (by decide) rfl ?_; intro b) | (refine s_lit [_, _, _] rfl (by decide) rfl ?_; intro b)))
  rw [hcb]
  refine s_look rfl rfl hvw ?_
  rw [eb_z]
  (repeat' (first | refine s_move ?_ | refine s_assign ?_ | refine s_nil ?_ | (refine k_C ?_; first | refine s_seq ?_ | refine s_region ?_ | refine s_stillP foI rfl (by kernel_rfl) ?_ | refine s_skip ?_ | refine s_block ?_ | refine s_exit ?_ | refine s_ret ?_ | refine s_ift rfl ?_ | refine s_iff rfl ?_) | (refine k_E ?_; first | refine e_seq ?_ | refine e_seq_ret ?_ | refine e_seq_exit ?_ | refine e_bk_exit ?_ | refine e_bk_ret ?_ | refine e_bk ?_ | refine e_bk_out rfl ?_ | refine e_lp_ret ?_ | refine e_lp_exit ?_ | refine e_ct_ret ?_ | refine e_ct_exit ?_) | (refine k_load ?_; first | refine s_ldB rfl rfl ?_ | refine s_ldBW rfl rfl ?_ | refine s_ldBA rfl (by decide) ?_ | refine s_ldRB rfl rfl ?_ | refine s_ldRBA rfl (by decide) ?_ | refine s_ld rfl om rfl ?_ | refine s_ldF rfl om rfl ?_ | refine s_ldA rfl om rfl ?_ | refine s_ldFA rfl om (by decide) ?_ | refine s_ldR rfl om rfl ?_ | refine s_ldS rfl rfl om rfl ?_ | refine s_ldSF rfl rfl om rfl ?_ | refine s_ldSA rfl rfl om rfl ?_ | refine s_ldSFA rfl rfl om (by decide) ?_) | (refine k_bin ?_; first | refine s_lss rfl rfl ?_ | refine s_add1 rfl rfl om ?_ | refine s_add64 rfl rfl om ?_ | refine s_sub64 rfl rfl om ?_ | refine s_eql rfl rfl ?_ | refine s_neq rfl rfl ?_ | refine s_gtr rfl rfl ?_ | refine s_geq rfl rfl ?_ | refine s_leq rfl rfl ?_ | refine s_beq rfl rfl ?_ | refine s_pnil rfl rfl ?_ | refine s_snil rfl rfl ?_ | refine s_bne rfl rfl ?_ | refine s_rem rfl rfl om ?_ | refine s_mul64 rfl rfl om ?_ | refine s_xor1 rfl rfl om ?_ | refine s_xor1I rfl rfl om om ?_ | refine s_shr rfl rfl om ?_ | refine s_shl1 rfl rfl om ?_ | refine s_and1 rfl rfl om ?_ | refine s_orN rfl rfl om om ?_) | (refine k_fld ?_; first | refine s_fld rfl ?_ | refine s_fldB rfl ?_) | (refine k_idx ?_; first | refine s_idx rfl rfl om ?_ | refine s_idxI rfl rfl om om ?_ | refine s_idxR rfl rfl om ?_ | refine s_idxRI rfl rfl om om ?_ | refine s_idxS rfl rfl om ?_ | refine s_idxSI rfl rfl om om ?_ | refine s_idxV (j := 0) rfl rfl (by decide) ?_ | refine s_idxV rfl rfl (by decide) ?_) | (refine k_store ?_; first | refine s_stW _ rfl rfl ?_ | refine s_st _ rfl rfl om ?_ | refine s_stB _ rfl rfl rfl (by decide) ?_) | (refine k_call ?_; first | refine s_len rfl ?_ | refine s_cap rfl ?_ | refine s_min rfl rfl ?_ | refine s_max rfl rfl ?_ | (refine s_appS rfl rfl om ?_; intro A c) | (refine s_appO rfl rfl om ?_; intro A c)) | (refine k_guard ?_; first | refine s_on rfl rfl ?_ | refine s_off rfl rfl rfl rfl ?_ | refine s_offU rfl rfl rfl rfl ?_ | (refine s_casesd rfl rfl ?_ ?_ <;> intro hc <;> try (exfalso; omega)) | (refine s_casesn rfl rfl ?_ ?_ <;> intro hc <;> try (exfalso; omega)) | (refine s_cases rfl rfl ?_ ?_ <;> intro hc)) | refine s_func (v1 := []) (v2 := [.pointer _]) rfl rfl ?_ | refine s_func (v1 := []) (v2 := []) rfl rfl ?_ | refine s_putW (yv := true) rfl rfl rfl trivial om ?_ | refine s_putIW (yv := true) rfl rfl rfl trivial om ?_ | refine s_lookW rfl rfl ?_ | refine s_lookSW rfl rfl ?_ | (refine s_alloc ?_; intro b) | (refine s_box _ rfl ?_; intro b) | (refine s_make rfl rfl om ?_; intro b) | (refine s_makeI rfl rfl om om ?_; intro b) | refine s_cutH rfl rfl om om ?_ | (refine s_cutL rfl rfl om ?_; intro A) | refine s_not rfl ?_ | refine s_pick rfl ?_ | refine s_convU rfl om ?_ | refine s_convUI rfl om om ?_ | refine s_extract rfl rfl ?_ | refine s_nilck rfl ?_ | (refine s_app1 _ (fun _ => rfl) rfl om ?_; intro v A c) | (refine s_app1N _ (fun _ => rfl) rfl (by decide) ?_; intro v A c) | (refine s_mkmapB ?_; intro b) | (refine s_mkmapI ?_; intro b) | (refine s_lit [] rfl (by decide) rfl ?_; intro b) | (refine s_lit [_] rfl (by decide) rfl ?_; intro b) | (refine s_lit [_, _] rfl (by decide) rfl ?_; intro b) | (refine s_lit [_, _, _] rfl (by decide) rfl ?_; intro b)))
  refine s_cutI (σ := Unit) (fun _ => [(0, .pointer (some ⟨k.b, 0, none⟩)), (1, .int .i64 (f : Nat)), (2, .int .i64 v), (3, .int .i64 (if k.cut f v = true then stays to else to))]) (fun _ => [mp EL 3 (k.mv f) (k.K f).length (s.V f), mp EB 3 (k.mc f) (k.NC f) (k.C f), var 78 k.b (⟨k.p, ⟨k.xv, ⟨k.Aa, k.ca, s.A⟩, ⟨k.Ar, k.cr, s.Rt⟩, k.xc⟩, k.xw, s.t⟩ : TaintSolver), own 56 k.xv.A k.xv.xs.length k.xv.c k.xv.xs, own 42 k.Aa s.A.length k.ca s.A, own 42 k.Ar s.Rt.length k.cr s.Rt, own 29 k.xc.A k.xc.xs.length k.xc.c k.xc.xs, own 4 k.xw.A k.xw.xs.length k.xw.c k.xw.xs, bagGX EL 3 (fun j => (k.K j).length) k.n k.mv s.V f, bagGX EB 3 k.NC k.n k.mc k.C f]) (fun _ => True) ?_ ?_
  · refine s_if rfl ?_ ?_
    · intro hc
      rw [if_pos (show k.cut f v = true from hc)]
      (repeat' (first | refine s_move ?_ | refine s_assign ?_ | refine s_nil ?_ | (refine k_C ?_; first | refine s_seq ?_ | refine s_region ?_ | refine s_stillP foI rfl (by kernel_rfl) ?_ | refine s_skip ?_ | refine s_block ?_ | refine s_exit ?_ | refine s_ret ?_ | refine s_ift rfl ?_ | refine s_iff rfl ?_ | (refine s_ifd rfl ?_ ?_ <;> intro hc <;> try (exfalso; omega)) | (refine s_ifn rfl ?_ ?_ <;> intro hc <;> try (exfalso; omega)) | (refine s_if rfl ?_ ?_ <;> intro hc)) | (refine k_E ?_; first | refine e_seq ?_ | refine e_seq_ret ?_ | refine e_seq_exit ?_ | refine e_bk_exit ?_ | refine e_bk_ret ?_ | refine e_bk ?_ | refine e_bk_out rfl ?_ | refine e_lp_ret ?_ | refine e_lp_exit ?_ | refine e_ct_ret ?_ | refine e_ct_exit ?_) | (refine k_load ?_; first | refine s_ldB rfl rfl ?_ | refine s_ldBW rfl rfl ?_ | refine s_ldBA rfl (by decide) ?_ | refine s_ldRB rfl rfl ?_ | refine s_ldRBA rfl (by decide) ?_ | refine s_ld rfl om rfl ?_ | refine s_ldF rfl om rfl ?_ | refine s_ldA rfl om rfl ?_ | refine s_ldFA rfl om (by decide) ?_ | refine s_ldR rfl om rfl ?_ | refine s_ldS rfl rfl om rfl ?_ | refine s_ldSF rfl rfl om rfl ?_ | refine s_ldSA rfl rfl om rfl ?_ | refine s_ldSFA rfl rfl om (by decide) ?_) | (refine k_bin ?_; first | refine s_lss rfl rfl ?_ | refine s_add1 rfl rfl om ?_ | refine s_add64 rfl rfl om ?_ | refine s_sub64 rfl rfl om ?_ | refine s_eql rfl rfl ?_ | refine s_neq rfl rfl ?_ | refine s_gtr rfl rfl ?_ | refine s_geq rfl rfl ?_ | refine s_leq rfl rfl ?_ | refine s_beq rfl rfl ?_ | refine s_pnil rfl rfl ?_ | refine s_snil rfl rfl ?_ | refine s_bne rfl rfl ?_ | refine s_rem rfl rfl om ?_ | refine s_mul64 rfl rfl om ?_ | refine s_xor1 rfl rfl om ?_ | refine s_xor1I rfl rfl om om ?_ | refine s_shr rfl rfl om ?_ | refine s_shl1 rfl rfl om ?_ | refine s_and1 rfl rfl om ?_ | refine s_orN rfl rfl om om ?_) | (refine k_fld ?_; first | refine s_fld rfl ?_ | refine s_fldB rfl ?_) | (refine k_idx ?_; first | refine s_idx rfl rfl om ?_ | refine s_idxI rfl rfl om om ?_ | refine s_idxR rfl rfl om ?_ | refine s_idxRI rfl rfl om om ?_ | refine s_idxS rfl rfl om ?_ | refine s_idxSI rfl rfl om om ?_ | refine s_idxV (j := 0) rfl rfl (by decide) ?_ | refine s_idxV rfl rfl (by decide) ?_) | (refine k_store ?_; first | refine s_stW _ rfl rfl ?_ | refine s_st _ rfl rfl om ?_ | refine s_stB _ rfl rfl rfl (by decide) ?_) | (refine k_call ?_; first | refine s_len rfl ?_ | refine s_cap rfl ?_ | refine s_min rfl rfl ?_ | refine s_max rfl rfl ?_ | (refine s_appS rfl rfl om ?_; intro A c) | (refine s_appO rfl rfl om ?_; intro A c)) | (refine k_guard ?_; first | refine s_on rfl rfl ?_ | refine s_off rfl rfl rfl rfl ?_ | refine s_offU rfl rfl rfl rfl ?_ | (refine s_casesd rfl rfl ?_ ?_ <;> intro hc <;> try (exfalso; omega)) | (refine s_casesn rfl rfl ?_ ?_ <;> intro hc <;> try (exfalso; omega)) | (refine s_cases rfl rfl ?_ ?_ <;> intro hc)) | refine s_func (v1 := []) (v2 := [.pointer _]) rfl rfl ?_ | refine s_func (v1 := []) (v2 := []) rfl rfl ?_ | refine s_putW (yv := true) rfl rfl rfl trivial om ?_ | refine s_putIW (yv := true) rfl rfl rfl trivial om ?_ | refine s_lookW rfl rfl ?_ | refine s_lookSW rfl rfl ?_ | (refine s_alloc ?_; intro b) | (refine s_box _ rfl ?_; intro b) | (refine s_make rfl rfl om ?_; intro b) | (refine s_makeI rfl rfl om om ?_; intro b) | refine s_cutH rfl rfl om om ?_ | (refine s_cutL rfl rfl om ?_; intro A) | refine s_not rfl ?_ | refine s_pick rfl ?_ | refine s_convU rfl om ?_ | refine s_convUI rfl om om ?_ | refine s_extract rfl rfl ?_ | refine s_nilck rfl ?_ | (refine s_app1 _ (fun _ => rfl) rfl om ?_; intro v A c) | (refine s_app1N _ (fun _ => rfl) rfl (by decide) ?_; intro v A c) | (refine s_mkmapB ?_; intro b) | (refine s_mkmapI ?_; intro b) | (refine s_lit [] rfl (by decide) rfl ?_; intro b) | (refine s_lit [_] rfl (by decide) rfl ?_; intro b) | (refine s_lit [_, _] rfl (by decide) rfl ?_; intro b) | (refine s_lit [_, _, _] rfl (by decide) rfl ?_; intro b)))
      refine s_call0 (stays_spec to) rfl (fun _ _ => trivial) ?_
      rintro r L' ⟨rfl, rfl⟩
      (repeat' (first | refine s_move ?_ | refine s_assign ?_ | refine s_nil ?_ | (refine k_C ?_; first | refine s_seq ?_ | refine s_region ?_ | refine s_stillP foI rfl (by kernel_rfl) ?_ | refine s_skip ?_ | refine s_block ?_ | refine s_exit ?_ | refine s_ret ?_ | refine s_ift rfl ?_ | refine s_iff rfl ?_ | (refine s_ifd rfl ?_ ?_ <;> intro hc <;> try (exfalso; omega)) | (refine s_ifn rfl ?_ ?_ <;> intro hc <;> try (exfalso; omega)) | (refine s_if rfl ?_ ?_ <;> intro hc)) | (refine k_E ?_; first | refine e_seq ?_ | refine e_seq_ret ?_ | refine e_seq_exit ?_ | refine e_bk_exit ?_ | refine e_bk_ret ?_ | refine e_bk ?_ | refine e_bk_out rfl ?_ | refine e_lp_ret ?_ | refine e_lp_exit ?_ | refine e_ct_ret ?_ | refine e_ct_exit ?_) | (refine k_load ?_; first | refine s_ldB rfl rfl ?_ | refine s_ldBW rfl rfl ?_ | refine s_ldBA rfl (by decide) ?_ | refine s_ldRB rfl rfl ?_ | refine s_ldRBA rfl (by decide) ?_ | refine s_ld rfl om rfl ?_ | refine s_ldF rfl om rfl ?_ | refine s_ldA rfl om rfl ?_ | refine s_ldFA rfl om (by decide) ?_ | refine s_ldR rfl om rfl ?_ | refine s_ldS rfl rfl om rfl ?_ | refine s_ldSF rfl rfl om rfl ?_ | refine s_ldSA rfl rfl om rfl ?_ | refine s_ldSFA rfl rfl om (by decide) ?_) | (refine k_bin ?_; first | refine s_lss rfl rfl ?_ | refine s_add1 rfl rfl om ?_ | refine s_add64 rfl rfl om ?_ | refine s_sub64 rfl rfl om ?_ | refine s_eql rfl rfl ?_ | refine s_neq rfl rfl ?_ | refine s_gtr rfl rfl ?_ | refine s_geq rfl rfl ?_ | refine s_leq rfl rfl ?_ | refine s_beq rfl rfl ?_ | refine s_pnil rfl rfl ?_ | refine s_snil rfl rfl ?_ | refine s_bne rfl rfl ?_ | refine s_rem rfl rfl om ?_ | refine s_mul64 rfl rfl om ?_ | refine s_xor1 rfl rfl om ?_ | refine s_xor1I rfl rfl om om ?_ | refine s_shr rfl rfl om ?_ | refine s_shl1 rfl rfl om ?_ | refine s_and1 rfl rfl om ?_ | refine s_orN rfl rfl om om ?_) | (refine k_fld ?_; first | refine s_fld rfl ?_ | refine s_fldB rfl ?_) | (refine k_idx ?_; first | refine s_idx rfl rfl om ?_ | refine s_idxI rfl rfl om om ?_ | refine s_idxR rfl rfl om ?_ | refine s_idxRI rfl rfl om om ?_ | refine s_idxS rfl rfl om ?_ | refine s_idxSI rfl rfl om om ?_ | refine s_idxV (j := 0) rfl rfl (by decide) ?_ | refine s_idxV rfl rfl (by decide) ?_) | (refine k_store ?_; first | refine s_stW _ rfl rfl ?_ | refine s_st _ rfl rfl om ?_ | refine s_stB _ rfl rfl rfl (by decide) ?_) | (refine k_call ?_; first | refine s_len rfl ?_ | refine s_cap rfl ?_ | refine s_min rfl rfl ?_ | refine s_max rfl rfl ?_ | (refine s_appS rfl rfl om ?_; intro A c) | (refine s_appO rfl rfl om ?_; intro A c)) | (refine k_guard ?_; first | refine s_on rfl rfl ?_ | refine s_off rfl rfl rfl rfl ?_ | refine s_offU rfl rfl rfl rfl ?_ | (refine s_casesd rfl rfl ?_ ?_ <;> intro hc <;> try (exfalso; omega)) | (refine s_casesn rfl rfl ?_ ?_ <;> intro hc <;> try (exfalso; omega)) | (refine s_cases rfl rfl ?_ ?_ <;> intro hc)) | refine s_func (v1 := []) (v2 := [.pointer _]) rfl rfl ?_ | refine s_func (v1 := []) (v2 := []) rfl rfl ?_ | refine s_putW (yv := true) rfl rfl rfl trivial om ?_ | refine s_putIW (yv := true) rfl rfl rfl trivial om ?_ | refine s_lookW rfl rfl ?_ | refine s_lookSW rfl rfl ?_ | (refine s_alloc ?_; intro b) | (refine s_box _ rfl ?_; intro b) | (refine s_make rfl rfl om ?_; intro b) | (refine s_makeI rfl rfl om om ?_; intro b) | refine s_cutH rfl rfl om om ?_ | (refine s_cutL rfl rfl om ?_; intro A) | refine s_not rfl ?_ | refine s_pick rfl ?_ | refine s_convU rfl om ?_ | refine s_convUI rfl om om ?_ | refine s_extract rfl rfl ?_ | refine s_nilck rfl ?_ | (refine s_app1 _ (fun _ => rfl) rfl om ?_; intro v A c) | (refine s_app1N _ (fun _ => rfl) rfl (by decide) ?_; intro v A c) | (refine s_mkmapB ?_; intro b) | (refine s_mkmapI ?_; intro b) | (refine s_lit [] rfl (by decide) rfl ?_; intro b) | (refine s_lit [_] rfl (by decide) rfl ?_; intro b) | (refine s_lit [_, _] rfl (by decide) rfl ?_; intro b) | (refine s_lit [_, _, _] rfl (by decide) rfl ?_; intro b)))
      exact e_ct () (by repeat (first | exact trivial | refine ⟨rfl, ?_⟩)) trivial PSub.refl
    · intro hc
      rw [if_neg (show ¬ k.cut f v = true by rw [show k.cut f v = false from hc]; decide)]
      (repeat' (first | refine s_move ?_ | refine s_assign ?_ | refine s_nil ?_ | (refine k_C ?_; first | refine s_seq ?_ | refine s_region ?_ | refine s_stillP foI rfl (by kernel_rfl) ?_ | refine s_skip ?_ | refine s_block ?_ | refine s_exit ?_ | refine s_ret ?_ | refine s_ift rfl ?_ | refine s_iff rfl ?_ | (refine s_ifd rfl ?_ ?_ <;> intro hc <;> try (exfalso; omega)) | (refine s_ifn rfl ?_ ?_ <;> intro hc <;> try (exfalso; omega)) | (refine s_if rfl ?_ ?_ <;> intro hc)) | (refine k_E ?_; first | refine e_seq ?_ | refine e_seq_ret ?_ | refine e_seq_exit ?_ | refine e_bk_exit ?_ | refine e_bk_ret ?_ | refine e_bk ?_ | refine e_bk_out rfl ?_ | refine e_lp_ret ?_ | refine e_lp_exit ?_ | refine e_ct_ret ?_ | refine e_ct_exit ?_) | (refine k_load ?_; first | refine s_ldB rfl rfl ?_ | refine s_ldBW rfl rfl ?_ | refine s_ldBA rfl (by decide) ?_ | refine s_ldRB rfl rfl ?_ | refine s_ldRBA rfl (by decide) ?_ | refine s_ld rfl om rfl ?_ | refine s_ldF rfl om rfl ?_ | refine s_ldA rfl om rfl ?_ | refine s_ldFA rfl om (by decide) ?_ | refine s_ldR rfl om rfl ?_ | refine s_ldS rfl rfl om rfl ?_ | refine s_ldSF rfl rfl om rfl ?_ | refine s_ldSA rfl rfl om rfl ?_ | refine s_ldSFA rfl rfl om (by decide) ?_) | (refine k_bin ?_; first | refine s_lss rfl rfl ?_ | refine s_add1 rfl rfl om ?_ | refine s_add64 rfl rfl om ?_ | refine s_sub64 rfl rfl om ?_ | refine s_eql rfl rfl ?_ | refine s_neq rfl rfl ?_ | refine s_gtr rfl rfl ?_ | refine s_geq rfl rfl ?_ | refine s_leq rfl rfl ?_ | refine s_beq rfl rfl ?_ | refine s_pnil rfl rfl ?_ | refine s_snil rfl rfl ?_ | refine s_bne rfl rfl ?_ | refine s_rem rfl rfl om ?_ | refine s_mul64 rfl rfl om ?_ | refine s_xor1 rfl rfl om ?_ | refine s_xor1I rfl rfl om om ?_ | refine s_shr rfl rfl om ?_ | refine s_shl1 rfl rfl om ?_ | refine s_and1 rfl rfl om ?_ | refine s_orN rfl rfl om om ?_) | (refine k_fld ?_; first | refine s_fld rfl ?_ | refine s_fldB rfl ?_) | (refine k_idx ?_; first | refine s_idx rfl rfl om ?_ | refine s_idxI rfl rfl om om ?_ | refine s_idxR rfl rfl om ?_ | refine s_idxRI rfl rfl om om ?_ | refine s_idxS rfl rfl om ?_ | refine s_idxSI rfl rfl om om ?_ | refine s_idxV (j := 0) rfl rfl (by decide) ?_ | refine s_idxV rfl rfl (by decide) ?_) | (refine k_store ?_; first | refine s_stW _ rfl rfl ?_ | refine s_st _ rfl rfl om ?_ | refine s_stB _ rfl rfl rfl (by decide) ?_) | (refine k_call ?_; first | refine s_len rfl ?_ | refine s_cap rfl ?_ | refine s_min rfl rfl ?_ | refine s_max rfl rfl ?_ | (refine s_appS rfl rfl om ?_; intro A c) | (refine s_appO rfl rfl om ?_; intro A c)) | (refine k_guard ?_; first | refine s_on rfl rfl ?_ | refine s_off rfl rfl rfl rfl ?_ | refine s_offU rfl rfl rfl rfl ?_ | (refine s_casesd rfl rfl ?_ ?_ <;> intro hc <;> try (exfalso; omega)) | (refine s_casesn rfl rfl ?_ ?_ <;> intro hc <;> try (exfalso; omega)) | (refine s_cases rfl rfl ?_ ?_ <;> intro hc)) | refine s_func (v1 := []) (v2 := [.pointer _]) rfl rfl ?_ | refine s_func (v1 := []) (v2 := []) rfl rfl ?_ | refine s_putW (yv := true) rfl rfl rfl trivial om ?_ | refine s_putIW (yv := true) rfl rfl rfl trivial om ?_ | refine s_lookW rfl rfl ?_ | refine s_lookSW rfl rfl ?_ | (refine s_alloc ?_; intro b) | (refine s_box _ rfl ?_; intro b) | (refine s_make rfl rfl om ?_; intro b) | (refine s_makeI rfl rfl om om ?_; intro b) | refine s_cutH rfl rfl om om ?_ | (refine s_cutL rfl rfl om ?_; intro A) | refine s_not rfl ?_ | refine s_pick rfl ?_ | refine s_convU rfl om ?_ | refine s_convUI rfl om om ?_ | refine s_extract rfl rfl ?_ | refine s_nilck rfl ?_ | (refine s_app1 _ (fun _ => rfl) rfl om ?_; intro v A c) | (refine s_app1N _ (fun _ => rfl) rfl (by decide) ?_; intro v A c) | (refine s_mkmapB ?_; intro b) | (refine s_mkmapI ?_; intro b) | (refine s_lit [] rfl (by decide) rfl ?_; intro b) | (refine s_lit [_] rfl (by decide) rfl ?_; intro b) | (refine s_lit [_, _] rfl (by decide) rfl ?_; intro b) | (refine s_lit [_, _, _] rfl (by decide) rfl ?_; intro b)))
      exact e_ct () (by repeat (first | exact trivial | refine ⟨rfl, ?_⟩)) trivial PSub.refl
  have hto2 : 0 ≤ (if k.cut f v = true then stays to else to) ∧ (if k.cut f v = true then stays to else to) ≤ 2 := by
    split
    · exact stays_in hto
    · exact hto
  generalize (if k.cut f v = true then stays to else to) = x at hto2 ⊢
  rintro g _ _
  have hl := hs.lv hf v
  (repeat' (first | refine s_move ?_ | refine s_assign ?_ | refine s_nil ?_ | (refine k_C ?_; first | refine s_seq ?_ | refine s_region ?_ | refine s_stillP foI rfl (by kernel_rfl) ?_ | refine s_skip ?_ | refine s_block ?_ | refine s_exit ?_ | refine s_ret ?_ | refine s_ift rfl ?_ | refine s_iff rfl ?_ | (refine s_ifd rfl ?_ ?_ <;> intro hc <;> try (exfalso; omega)) | (refine s_ifn rfl ?_ ?_ <;> intro hc <;> try (exfalso; omega)) | (refine s_if rfl ?_ ?_ <;> intro hc)) | (refine k_E ?_; first | refine e_seq ?_ | refine e_seq_ret ?_ | refine e_seq_exit ?_ | refine e_bk_exit ?_ | refine e_bk_ret ?_ | refine e_bk ?_ | refine e_bk_out rfl ?_ | refine e_lp_ret ?_ | refine e_lp_exit ?_ | refine e_ct_ret ?_ | refine e_ct_exit ?_) | (refine k_load ?_; first | refine s_ldB rfl rfl ?_ | refine s_ldBW rfl rfl ?_ | refine s_ldBA rfl (by decide) ?_ | refine s_ldRB rfl rfl ?_ | refine s_ldRBA rfl (by decide) ?_ | refine s_ld rfl om rfl ?_ | refine s_ldF rfl om rfl ?_ | refine s_ldA rfl om rfl ?_ | refine s_ldFA rfl om (by decide) ?_ | refine s_ldR rfl om rfl ?_ | refine s_ldS rfl rfl om rfl ?_ | refine s_ldSF rfl rfl om rfl ?_ | refine s_ldSA rfl rfl om rfl ?_ | refine s_ldSFA rfl rfl om (by decide) ?_) | (refine k_bin ?_; first | refine s_lss rfl rfl ?_ | refine s_add1 rfl rfl om ?_ | refine s_add64 rfl rfl om ?_ | refine s_sub64 rfl rfl om ?_ | refine s_eql rfl rfl ?_ | refine s_neq rfl rfl ?_ | refine s_gtr rfl rfl ?_ | refine s_geq rfl rfl ?_ | refine s_leq rfl rfl ?_ | refine s_beq rfl rfl ?_ | refine s_pnil rfl rfl ?_ | refine s_snil rfl rfl ?_ | refine s_bne rfl rfl ?_ | refine s_rem rfl rfl om ?_ | refine s_mul64 rfl rfl om ?_ | refine s_xor1 rfl rfl om ?_ | refine s_xor1I rfl rfl om om ?_ | refine s_shr rfl rfl om ?_ | refine s_shl1 rfl rfl om ?_ | refine s_and1 rfl rfl om ?_ | refine s_orN rfl rfl om om ?_) | (refine k_fld ?_; first | refine s_fld rfl ?_ | refine s_fldB rfl ?_) | (refine k_idx ?_; first | refine s_idx rfl rfl om ?_ | refine s_idxI rfl rfl om om ?_ | refine s_idxR rfl rfl om ?_ | refine s_idxRI rfl rfl om om ?_ | refine s_idxS rfl rfl om ?_ | refine s_idxSI rfl rfl om om ?_ | refine s_idxV (j := 0) rfl rfl (by decide) ?_ | refine s_idxV rfl rfl (by decide) ?_) | (refine k_store ?_; first | refine s_stW _ rfl rfl ?_ | refine s_st _ rfl rfl om ?_ | refine s_stB _ rfl rfl rfl (by decide) ?_) | (refine k_call ?_; first | refine s_len rfl ?_ | refine s_cap rfl ?_ | refine s_min rfl rfl ?_ | refine s_max rfl rfl ?_ | (refine s_appS rfl rfl om ?_; intro A c) | (refine s_appO rfl rfl om ?_; intro A c)) | (refine k_guard ?_; first | refine s_on rfl rfl ?_ | refine s_off rfl rfl rfl rfl ?_ | refine s_offU rfl rfl rfl rfl ?_ | (refine s_casesd rfl rfl ?_ ?_ <;> intro hc <;> try (exfalso; omega)) | (refine s_casesn rfl rfl ?_ ?_ <;> intro hc <;> try (exfalso; omega)) | (refine s_cases rfl rfl ?_ ?_ <;> intro hc)) | refine s_func (v1 := []) (v2 := [.pointer _]) rfl rfl ?_ | refine s_func (v1 := []) (v2 := []) rfl rfl ?_ | refine s_putW (yv := true) rfl rfl rfl trivial om ?_ | refine s_putIW (yv := true) rfl rfl rfl trivial om ?_ | refine s_lookW rfl rfl ?_ | refine s_lookSW rfl rfl ?_ | (refine s_alloc ?_; intro b) | (refine s_box _ rfl ?_; intro b) | (refine s_make rfl rfl om ?_; intro b) | (refine s_makeI rfl rfl om om ?_; intro b) | refine s_cutH rfl rfl om om ?_ | (refine s_cutL rfl rfl om ?_; intro A) | refine s_not rfl ?_ | refine s_pick rfl ?_ | refine s_convU rfl om ?_ | refine s_convUI rfl om om ?_ | refine s_extract rfl rfl ?_ | refine s_nilck rfl ?_ | (refine s_app1 _ (fun _ => rfl) rfl om ?_; intro v A c) | (refine s_app1N _ (fun _ => rfl) rfl (by decide) ?_; intro v A c) | (refine s_mkmapB ?_; intro b) | (refine s_mkmapI ?_; intro b) | (refine s_lit [] rfl (by decide) rfl ?_; intro b) | (refine s_lit [_] rfl (by decide) rfl ?_; intro b) | (refine s_lit [_, _] rfl (by decide) rfl ?_; intro b) | (refine s_lit [_, _, _] rfl (by decide) rfl ?_; intro b)))
  rw [hvb]
  refine s_look rfl rfl hvw ?_
  rw [el_z]
  (repeat' (first | refine s_move ?_ | refine s_assign ?_ | refine s_nil ?_ | (refine k_C ?_; first | refine s_seq ?_ | refine s_region ?_ | refine s_stillP foI rfl (by kernel_rfl) ?_ | refine s_skip ?_ | refine s_block ?_ | refine s_exit ?_ | refine s_ret ?_ | refine s_ift rfl ?_ | refine s_iff rfl ?_ | (refine s_ifd rfl ?_ ?_ <;> intro hc <;> try (exfalso; omega)) | (refine s_ifn rfl ?_ ?_ <;> intro hc <;> try (exfalso; omega)) | (refine s_if rfl ?_ ?_ <;> intro hc)) | (refine k_E ?_; first | refine e_seq ?_ | refine e_seq_ret ?_ | refine e_seq_exit ?_ | refine e_bk_exit ?_ | refine e_bk_ret ?_ | refine e_bk ?_ | refine e_bk_out rfl ?_ | refine e_lp_ret ?_ | refine e_lp_exit ?_ | refine e_ct_ret ?_ | refine e_ct_exit ?_) | (refine k_load ?_; first | refine s_ldB rfl rfl ?_ | refine s_ldBW rfl rfl ?_ | refine s_ldBA rfl (by decide) ?_ | refine s_ldRB rfl rfl ?_ | refine s_ldRBA rfl (by decide) ?_ | refine s_ld rfl om rfl ?_ | refine s_ldF rfl om rfl ?_ | refine s_ldA rfl om rfl ?_ | refine s_ldFA rfl om (by decide) ?_ | refine s_ldR rfl om rfl ?_ | refine s_ldS rfl rfl om rfl ?_ | refine s_ldSF rfl rfl om rfl ?_ | refine s_ldSA rfl rfl om rfl ?_ | refine s_ldSFA rfl rfl om (by decide) ?_) | (refine k_bin ?_; first | refine s_lss rfl rfl ?_ | refine s_add1 rfl rfl om ?_ | refine s_add64 rfl rfl om ?_ | refine s_sub64 rfl rfl om ?_ | refine s_eql rfl rfl ?_ | refine s_neq rfl rfl ?_ | refine s_gtr rfl rfl ?_ | refine s_geq rfl rfl ?_ | refine s_leq rfl rfl ?_ | refine s_beq rfl rfl ?_ | refine s_pnil rfl rfl ?_ | refine s_snil rfl rfl ?_ | refine s_bne rfl rfl ?_ | refine s_rem rfl rfl om ?_ | refine s_mul64 rfl rfl om ?_ | refine s_xor1 rfl rfl om ?_ | refine s_xor1I rfl rfl om om ?_ | refine s_shr rfl rfl om ?_ | refine s_shl1 rfl rfl om ?_ | refine s_and1 rfl rfl om ?_ | refine s_orN rfl rfl om om ?_) | (refine k_fld ?_; first | refine s_fld rfl ?_ | refine s_fldB rfl ?_) | (refine k_idx ?_; first | refine s_idx rfl rfl om ?_ | refine s_idxI rfl rfl om om ?_ | refine s_idxR rfl rfl om ?_ | refine s_idxRI rfl rfl om om ?_ | refine s_idxS rfl rfl om ?_ | refine s_idxSI rfl rfl om om ?_ | refine s_idxV (j := 0) rfl rfl (by decide) ?_ | refine s_idxV rfl rfl (by decide) ?_) | (refine k_store ?_; first | refine s_stW _ rfl rfl ?_ | refine s_st _ rfl rfl om ?_ | refine s_stB _ rfl rfl rfl (by decide) ?_) | (refine k_call ?_; first | refine s_len rfl ?_ | refine s_cap rfl ?_ | refine s_min rfl rfl ?_ | refine s_max rfl rfl ?_ | (refine s_appS rfl rfl om ?_; intro A c) | (refine s_appO rfl rfl om ?_; intro A c)) | (refine k_guard ?_; first | refine s_on rfl rfl ?_ | refine s_off rfl rfl rfl rfl ?_ | refine s_offU rfl rfl rfl rfl ?_ | (refine s_casesd rfl rfl ?_ ?_ <;> intro hc <;> try (exfalso; omega)) | (refine s_casesn rfl rfl ?_ ?_ <;> intro hc <;> try (exfalso; omega)) | (refine s_cases rfl rfl ?_ ?_ <;> intro hc)) | refine s_func (v1 := []) (v2 := [.pointer _]) rfl rfl ?_ | refine s_func (v1 := []) (v2 := []) rfl rfl ?_ | refine s_putW (yv := true) rfl rfl rfl trivial om ?_ | refine s_putIW (yv := true) rfl rfl rfl trivial om ?_ | refine s_lookW rfl rfl ?_ | refine s_lookSW rfl rfl ?_ | (refine s_alloc ?_; intro b) | (refine s_box _ rfl ?_; intro b) | (refine s_make rfl rfl om ?_; intro b) | (refine s_makeI rfl rfl om om ?_; intro b) | refine s_cutH rfl rfl om om ?_ | (refine s_cutL rfl rfl om ?_; intro A) | refine s_not rfl ?_ | refine s_pick rfl ?_ | refine s_convU rfl om ?_ | refine s_convUI rfl om om ?_ | refine s_extract rfl rfl ?_ | refine s_nilck rfl ?_ | (refine s_app1 _ (fun _ => rfl) rfl om ?_; intro v A c) | (refine s_app1N _ (fun _ => rfl) rfl (by decide) ?_; intro v A c) | (refine s_mkmapB ?_; intro b) | (refine s_mkmapI ?_; intro b) | (refine s_lit [] rfl (by decide) rfl ?_; intro b) | (refine s_lit [_] rfl (by decide) rfl ?_; intro b) | (refine s_lit [_, _] rfl (by decide) rfl ?_; intro b) | (refine s_lit [_, _, _] rfl (by decide) rfl ?_; intro b)))
  obtain ⟨b8, rfl⟩ : ∃ q, q = b := ⟨_, rfl⟩
  refine s_call (L2 := [mp EL 3 (k.mv f) (k.K f).length (s.V f), mp EB 3 (k.mc f) (k.NC f) (k.C f), own 56 k.xv.A k.xv.xs.length k.xv.c k.xv.xs, own 42 k.Aa s.A.length k.ca s.A, own 42 k.Ar s.Rt.length k.cr s.Rt, own 29 k.xc.A k.xc.xs.length k.xc.c k.xc.xs, own 4 k.xw.A k.xw.xs.length k.xw.c k.xw.xs, bagGX EL 3 (fun j => (k.K j).length) k.n k.mv s.V f, bagGX EB 3 k.NC k.n k.mc k.C f]) [3, 0] (raiseV_spec k.b b8 k.p _ k.xw s.t ((s.V f v).getD 0) x) rfl rfl (fun _ _ _ => trivial) ?_
  rintro r L' rfl
  (repeat' (first | refine s_move ?_ | refine s_assign ?_ | refine s_nil ?_ | (refine k_C ?_; first | refine s_seq ?_ | refine s_region ?_ | refine s_stillP foI rfl (by kernel_rfl) ?_ | refine s_skip ?_ | refine s_block ?_ | refine s_exit ?_ | refine s_ret ?_ | refine s_ift rfl ?_ | refine s_iff rfl ?_ | (refine s_ifd rfl ?_ ?_ <;> intro hc <;> try (exfalso; omega)) | (refine s_ifn rfl ?_ ?_ <;> intro hc <;> try (exfalso; omega)) | (refine s_if rfl ?_ ?_ <;> intro hc)) | (refine k_E ?_; first | refine e_seq ?_ | refine e_seq_ret ?_ | refine e_seq_exit ?_ | refine e_bk_exit ?_ | refine e_bk_ret ?_ | refine e_bk ?_ | refine e_bk_out rfl ?_ | refine e_lp_ret ?_ | refine e_lp_exit ?_ | refine e_ct_ret ?_ | refine e_ct_exit ?_) | (refine k_load ?_; first | refine s_ldB rfl rfl ?_ | refine s_ldBW rfl rfl ?_ | refine s_ldBA rfl (by decide) ?_ | refine s_ldRB rfl rfl ?_ | refine s_ldRBA rfl (by decide) ?_ | refine s_ld rfl om rfl ?_ | refine s_ldF rfl om rfl ?_ | refine s_ldA rfl om rfl ?_ | refine s_ldFA rfl om (by decide) ?_ | refine s_ldR rfl om rfl ?_ | refine s_ldS rfl rfl om rfl ?_ | refine s_ldSF rfl rfl om rfl ?_ | refine s_ldSA rfl rfl om rfl ?_ | refine s_ldSFA rfl rfl om (by decide) ?_) | (refine k_bin ?_; first | refine s_lss rfl rfl ?_ | refine s_add1 rfl rfl om ?_ | refine s_add64 rfl rfl om ?_ | refine s_sub64 rfl rfl om ?_ | refine s_eql rfl rfl ?_ | refine s_neq rfl rfl ?_ | refine s_gtr rfl rfl ?_ | refine s_geq rfl rfl ?_ | refine s_leq rfl rfl ?_ | refine s_beq rfl rfl ?_ | refine s_pnil rfl rfl ?_ | refine s_snil rfl rfl ?_ | refine s_bne rfl rfl ?_ | refine s_rem rfl rfl om ?_ | refine s_mul64 rfl rfl om ?_ | refine s_xor1 rfl rfl om ?_ | refine s_xor1I rfl rfl om om ?_ | refine s_shr rfl rfl om ?_ | refine s_shl1 rfl rfl om ?_ | refine s_and1 rfl rfl om ?_ | refine s_orN rfl rfl om om ?_) | (refine k_fld ?_; first | refine s_fld rfl ?_ | refine s_fldB rfl ?_) | (refine k_idx ?_; first | refine s_idx rfl rfl om ?_ | refine s_idxI rfl rfl om om ?_ | refine s_idxR rfl rfl om ?_ | refine s_idxRI rfl rfl om om ?_ | refine s_idxS rfl rfl om ?_ | refine s_idxSI rfl rfl om om ?_ | refine s_idxV (j := 0) rfl rfl (by decide) ?_ | refine s_idxV rfl rfl (by decide) ?_) | (refine k_store ?_; first | refine s_stW _ rfl rfl ?_ | refine s_st _ rfl rfl om ?_ | refine s_stB _ rfl rfl rfl (by decide) ?_) | (refine k_call ?_; first | refine s_len rfl ?_ | refine s_cap rfl ?_ | refine s_min rfl rfl ?_ | refine s_max rfl rfl ?_ | (refine s_appS rfl rfl om ?_; intro A c) | (refine s_appO rfl rfl om ?_; intro A c)) | (refine k_guard ?_; first | refine s_on rfl rfl ?_ | refine s_off rfl rfl rfl rfl ?_ | refine s_offU rfl rfl rfl rfl ?_ | (refine s_casesd rfl rfl ?_ ?_ <;> intro hc <;> try (exfalso; omega)) | (refine s_casesn rfl rfl ?_ ?_ <;> intro hc <;> try (exfalso; omega)) | (refine s_cases rfl rfl ?_ ?_ <;> intro hc)) | refine s_func (v1 := []) (v2 := [.pointer _]) rfl rfl ?_ | refine s_func (v1 := []) (v2 := []) rfl rfl ?_ | refine s_putW (yv := true) rfl rfl rfl trivial om ?_ | refine s_putIW (yv := true) rfl rfl rfl trivial om ?_ | refine s_lookW rfl rfl ?_ | refine s_lookSW rfl rfl ?_ | (refine s_alloc ?_; intro b) | (refine s_box _ rfl ?_; intro b) | (refine s_make rfl rfl om ?_; intro b) | (refine s_makeI rfl rfl om om ?_; intro b) | refine s_cutH rfl rfl om om ?_ | (refine s_cutL rfl rfl om ?_; intro A) | refine s_not rfl ?_ | refine s_pick rfl ?_ | refine s_convU rfl om ?_ | refine s_convUI rfl om om ?_ | refine s_extract rfl rfl ?_ | refine s_nilck rfl ?_ | (refine s_app1 _ (fun _ => rfl) rfl om ?_; intro v A c) | (refine s_app1N _ (fun _ => rfl) rfl (by decide) ?_; intro v A c) | (refine s_mkmapB ?_; intro b) | (refine s_mkmapI ?_; intro b) | (refine s_lit [] rfl (by decide) rfl ?_; intro b) | (refine s_lit [_] rfl (by decide) rfl ?_; intro b) | (refine s_lit [_, _] rfl (by decide) rfl ?_; intro b) | (refine s_lit [_, _, _] rfl (by decide) rfl ?_; intro b)))
  refine s_tail (F := ?F4) 10 [0, 1, 2, 3, 4, 5, 6, 7, 8, 9] foI (by kernel_rfl) ?hr4 ?hn4
  case hr4 =>
    change sO _ _ _ _ _ _ (_ :: _ :: _ :: _ :: _ :: _ :: _ :: _ :: _ :: _ :: []) _ _ _
    (repeat' (first | refine s_move ?_ | refine s_assign ?_ | refine s_nil ?_ | (refine k_C ?_; first | refine s_seq ?_ | refine s_region ?_ | refine s_stillP foI rfl (by kernel_rfl) ?_ | refine s_skip ?_ | refine s_block ?_ | refine s_exit ?_ | refine s_ret ?_ | refine s_ift rfl ?_ | refine s_iff rfl ?_ | (refine s_ifd rfl ?_ ?_ <;> intro hc <;> try (exfalso; omega)) | (refine s_ifn rfl ?_ ?_ <;> intro hc <;> try (exfalso; omega)) | (refine s_if rfl ?_ ?_ <;> intro hc)) | (refine k_E ?_; first | refine e_seq ?_ | refine e_seq_ret ?_ | refine e_seq_exit ?_ | refine e_bk_exit ?_ | refine e_bk_ret ?_ | refine e_bk ?_ | refine e_bk_out rfl ?_ | refine e_lp_ret ?_ | refine e_lp_exit ?_ | refine e_ct_ret ?_ | refine e_ct_exit ?_) | (refine k_load ?_; first | refine s_ldB rfl rfl ?_ | refine s_ldBW rfl rfl ?_ | refine s_ldBA rfl (by decide) ?_ | refine s_ldRB rfl rfl ?_ | refine s_ldRBA rfl (by decide) ?_ | refine s_ld rfl om rfl ?_ | refine s_ldF rfl om rfl ?_ | refine s_ldA rfl om rfl ?_ | refine s_ldFA rfl om (by decide) ?_ | refine s_ldR rfl om rfl ?_ | refine s_ldS rfl rfl om rfl ?_ | refine s_ldSF rfl rfl om rfl ?_ | refine s_ldSA rfl rfl om rfl ?_ | refine s_ldSFA rfl rfl om (by decide) ?_) | (refine k_bin ?_; first | refine s_lss rfl rfl ?_ | refine s_add1 rfl rfl om ?_ | refine s_add64 rfl rfl om ?_ | refine s_sub64 rfl rfl om ?_ | refine s_eql rfl rfl ?_ | refine s_neq rfl rfl ?_ | refine s_gtr rfl rfl ?_ | refine s_geq rfl rfl ?_ | refine s_leq rfl rfl ?_ | refine s_beq rfl rfl ?_ | refine s_pnil rfl rfl ?_ | refine s_snil rfl rfl ?_ | refine s_bne rfl rfl ?_ | refine s_rem rfl rfl om ?_ | refine s_mul64 rfl rfl om ?_ | refine s_xor1 rfl rfl om ?_ | refine s_xor1I rfl rfl om om ?_ | refine s_shr rfl rfl om ?_ | refine s_shl1 rfl rfl om ?_ | refine s_and1 rfl rfl om ?_ | refine s_orN rfl rfl om om ?_) | (refine k_fld ?_; first | refine s_fld rfl ?_ | refine s_fldB rfl ?_) | (refine k_idx ?_; first | refine s_idx rfl rfl om ?_ | refine s_idxI rfl rfl om om ?_ | refine s_idxR rfl rfl om ?_ | refine s_idxRI rfl rfl om om ?_ | refine s_idxS rfl rfl om ?_ | refine s_idxSI rfl rfl om om ?_ | refine s_idxV (j := 0) rfl rfl (by decide) ?_ | refine s_idxV rfl rfl (by decide) ?_) | (refine k_store ?_; first | refine s_stW _ rfl rfl ?_ | refine s_st _ rfl rfl om ?_ | refine s_stB _ rfl rfl rfl (by decide) ?_) | (refine k_call ?_; first | refine s_len rfl ?_ | refine s_cap rfl ?_ | refine s_min rfl rfl ?_ | refine s_max rfl rfl ?_ | (refine s_appS rfl rfl om ?_; intro A c) | (refine s_appO rfl rfl om ?_; intro A c)) | (refine k_guard ?_; first | refine s_on rfl rfl ?_ | refine s_off rfl rfl rfl rfl ?_ | refine s_offU rfl rfl rfl rfl ?_ | (refine s_casesd rfl rfl ?_ ?_ <;> intro hc <;> try (exfalso; omega)) | (refine s_casesn rfl rfl ?_ ?_ <;> intro hc <;> try (exfalso; omega)) | (refine s_cases rfl rfl ?_ ?_ <;> intro hc)) | refine s_func (v1 := []) (v2 := [.pointer _]) rfl rfl ?_ | refine s_func (v1 := []) (v2 := []) rfl rfl ?_ | refine s_putW (yv := true) rfl rfl rfl trivial om ?_ | refine s_putIW (yv := true) rfl rfl rfl trivial om ?_ | refine s_lookW rfl rfl ?_ | refine s_lookSW rfl rfl ?_ | (refine s_alloc ?_; intro b) | (refine s_box _ rfl ?_; intro b) | (refine s_make rfl rfl om ?_; intro b) | (refine s_makeI rfl rfl om om ?_; intro b) | refine s_cutH rfl rfl om om ?_ | (refine s_cutL rfl rfl om ?_; intro A) | refine s_not rfl ?_ | refine s_pick rfl ?_ | refine s_convU rfl om ?_ | refine s_convUI rfl om om ?_ | refine s_extract rfl rfl ?_ | refine s_nilck rfl ?_ | (refine s_app1 _ (fun _ => rfl) rfl om ?_; intro v A c) | (refine s_app1N _ (fun _ => rfl) rfl (by decide) ?_; intro v A c) | (refine s_mkmapB ?_; intro b) | (refine s_mkmapI ?_; intro b) | (refine s_lit [] rfl (by decide) rfl ?_; intro b) | (refine s_lit [_] rfl (by decide) rfl ?_; intro b) | (refine s_lit [_, _] rfl (by decide) rfl ?_; intro b) | (refine s_lit [_, _, _] rfl (by decide) rfl ?_; intro b)))
    exact e_F
  case hn4 =>
    change sO _ _ _ _ _ _ (_ :: []) _ _ _
    rw [hvb]
    refine s_put (yv := max ((s.V f v).getD 0) x) rfl rfl rfl hvw (wfi_iff.1 ⟨by omega, by omega⟩) (by omega) ?_
    (repeat' (first | refine s_move ?_ | refine s_assign ?_ | refine s_nil ?_ | (refine k_C ?_; first | refine s_seq ?_ | refine s_region ?_ | refine s_stillP foI rfl (by kernel_rfl) ?_ | refine s_skip ?_ | refine s_block ?_ | refine s_exit ?_ | refine s_ret ?_ | refine s_ift rfl ?_ | refine s_iff rfl ?_ | (refine s_ifd rfl ?_ ?_ <;> intro hc <;> try (exfalso; omega)) | (refine s_ifn rfl ?_ ?_ <;> intro hc <;> try (exfalso; omega)) | (refine s_if rfl ?_ ?_ <;> intro hc)) | (refine k_E ?_; first | refine e_seq ?_ | refine e_seq_ret ?_ | refine e_seq_exit ?_ | refine e_bk_exit ?_ | refine e_bk_ret ?_ | refine e_bk ?_ | refine e_bk_out rfl ?_ | refine e_lp_ret ?_ | refine e_lp_exit ?_ | refine e_ct_ret ?_ | refine e_ct_exit ?_) | (refine k_load ?_; first | refine s_ldB rfl rfl ?_ | refine s_ldBW rfl rfl ?_ | refine s_ldBA rfl (by decide) ?_ | refine s_ldRB rfl rfl ?_ | refine s_ldRBA rfl (by decide) ?_ | refine s_ld rfl om rfl ?_ | refine s_ldF rfl om rfl ?_ | refine s_ldA rfl om rfl ?_ | refine s_ldFA rfl om (by decide) ?_ | refine s_ldR rfl om rfl ?_ | refine s_ldS rfl rfl om rfl ?_ | refine s_ldSF rfl rfl om rfl ?_ | refine s_ldSA rfl rfl om rfl ?_ | refine s_ldSFA rfl rfl om (by decide) ?_) | (refine k_bin ?_; first | refine s_lss rfl rfl ?_ | refine s_add1 rfl rfl om ?_ | refine s_add64 rfl rfl om ?_ | refine s_sub64 rfl rfl om ?_ | refine s_eql rfl rfl ?_ | refine s_neq rfl rfl ?_ | refine s_gtr rfl rfl ?_ | refine s_geq rfl rfl ?_ | refine s_leq rfl rfl ?_ | refine s_beq rfl rfl ?_ | refine s_pnil rfl rfl ?_ | refine s_snil rfl rfl ?_ | refine s_bne rfl rfl ?_ | refine s_rem rfl rfl om ?_ | refine s_mul64 rfl rfl om ?_ | refine s_xor1 rfl rfl om ?_ | refine s_xor1I rfl rfl om om ?_ | refine s_shr rfl rfl om ?_ | refine s_shl1 rfl rfl om ?_ | refine s_and1 rfl rfl om ?_ | refine s_orN rfl rfl om om ?_) | (refine k_fld ?_; first | refine s_fld rfl ?_ | refine s_fldB rfl ?_) | (refine k_idx ?_; first | refine s_idx rfl rfl om ?_ | refine s_idxI rfl rfl om om ?_ | refine s_idxR rfl rfl om ?_ | refine s_idxRI rfl rfl om om ?_ | refine s_idxS rfl rfl om ?_ | refine s_idxSI rfl rfl om om ?_ | refine s_idxV (j := 0) rfl rfl (by decide) ?_ | refine s_idxV rfl rfl (by decide) ?_) | (refine k_store ?_; first | refine s_stW _ rfl rfl ?_ | refine s_st _ rfl rfl om ?_ | refine s_stB _ rfl rfl rfl (by decide) ?_) | (refine k_call ?_; first | refine s_len rfl ?_ | refine s_cap rfl ?_ | refine s_min rfl rfl ?_ | refine s_max rfl rfl ?_ | (refine s_appS rfl rfl om ?_; intro A c) | (refine s_appO rfl rfl om ?_; intro A c)) | (refine k_guard ?_; first | refine s_on rfl rfl ?_ | refine s_off rfl rfl rfl rfl ?_ | refine s_offU rfl rfl rfl rfl ?_ | (refine s_casesd rfl rfl ?_ ?_ <;> intro hc <;> try (exfalso; omega)) | (refine s_casesn rfl rfl ?_ ?_ <;> intro hc <;> try (exfalso; omega)) | (refine s_cases rfl rfl ?_ ?_ <;> intro hc)) | refine s_func (v1 := []) (v2 := [.pointer _]) rfl rfl ?_ | refine s_func (v1 := []) (v2 := []) rfl rfl ?_ | refine s_putW (yv := true) rfl rfl rfl trivial om ?_ | refine s_putIW (yv := true) rfl rfl rfl trivial om ?_ | refine s_lookW rfl rfl ?_ | refine s_lookSW rfl rfl ?_ | (refine s_alloc ?_; intro b) | (refine s_box _ rfl ?_; intro b) | (refine s_make rfl rfl om ?_; intro b) | (refine s_makeI rfl rfl om om ?_; intro b) | refine s_cutH rfl rfl om om ?_ | (refine s_cutL rfl rfl om ?_; intro A) | refine s_not rfl ?_ | refine s_pick rfl ?_ | refine s_convU rfl om ?_ | refine s_convUI rfl om om ?_ | refine s_extract rfl rfl ?_ | refine s_nilck rfl ?_ | (refine s_app1 _ (fun _ => rfl) rfl om ?_; intro v A c) | (refine s_app1N _ (fun _ => rfl) rfl (by decide) ?_; intro v A c) | (refine s_mkmapB ?_; intro b) | (refine s_mkmapI ?_; intro b) | (refine s_lit [] rfl (by decide) rfl ?_; intro b) | (refine s_lit [_] rfl (by decide) rfl ?_; intro b) | (refine s_lit [_, _] rfl (by decide) rfl ?_; intro b) | (refine s_lit [_, _, _] rfl (by decide) rfl ?_; intro b)))
    refine e_done0N rfl _ ((PSub.take [2, 8, 0, 2, 2, 2, 2, 2, 1, 1] rfl).trans ((PSub.mpCut (k.K f) U_3 (fun u hu => ?_)).trans ((PSub.bagGin (E := EL) (kt := 3) (U := fun j => (k.K j).length) (mi := k.mv) (F := s.V) hf).trans ((PSub.take [7, 7, 0, 0, 0, 0, 0, 0, 0] rfl).trans ((PSub.bagGback (E := EB) (kt := 3) (U := k.NC) (mi := k.mc) (F := k.C) hf).trans (PSub.take [2, 2, 2, 2, 2, 2, 1, 0] rfl)))))) rfl
    unfold upd at hu
    split at hu
    · rename_i e; rw [e]; exact hv
    · exact hs.keys f hf u hu
end Go.Proofs.Ytomhieglgfjloaa
