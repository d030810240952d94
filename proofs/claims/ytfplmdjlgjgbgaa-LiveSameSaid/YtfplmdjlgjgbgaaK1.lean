/- Frames as functions, and the rules of the walk over them: operation by operation, region by region. -/
import Derived.WalkKit
import Derived.Deep.LoopGhost
import Derived.StillTail
namespace Go.Proofs.Ytfplmdjlgjgbgaa
set_option linter.unusedVariables false
set_option linter.unusedSimpArgs false
open Go

abbrev Fr := Nat → Value
def up (f : Fr) (d : Nat) (v : Value) : Fr := fun i => bif Nat.beq i d then v else f i
def upO (f : Fr) : Option Nat → Value → Fr
  | none, _ => f
  | some d, v => up f d v
def ev (f : Fr) : Operand → Value
  | .tmp t => f t
  | .const v => v
  | .global g => .pointer (some ⟨g, 0, none⟩)
  | .func g => .func (.func g) #[] #[]

theorem up_self {f : Fr} {d : Nat} {v : Value} (h : f d = v) : up f d v = f := by
  funext i
  unfold up
  cases e : Nat.beq i d
  · rfl
  · have := Nat.eq_of_beq_eq_true e; subst this; exact h.symm

/-- A frame fits a list of slots and what is in them. -/
def fits (f : Fr) : List (Nat × Value) → Prop
  | [] => True
  | p :: l => f p.1 = p.2 ∧ fits f l
def ups (f : Fr) : List (Nat × Value) → Fr
  | [] => f
  | p :: l => up (ups f l) p.1 p.2
theorem ups_fits {f : Fr} : ∀ {l : List (Nat × Value)}, fits f l → ups f l = f
  | [], _ => rfl
  | p :: l, h => by
    show up (ups f l) p.1 p.2 = f
    rw [ups_fits h.2]
    exact up_self h.1

structure Sm (n : Nat) (a : Act) (f : Fr) : Prop where
  size : a.tmps.size = n
  at_ : ∀ i, i < n → a.tmps[i]? = some (f i)
  out : ∀ i, n ≤ i → f i = undef
  df : a.defers = []

theorem Sm.eval {n : Nat} {a : Act} {f : Fr} (h : Sm n a f) : a.eval = ev f := by
  funext x
  cases x with
  | tmp t =>
    show a.tmps.getD t undef = f t
    by_cases ht : t < n
    · have := h.at_ t ht
      rw [Array.getD_eq_getD_getElem?, this]; rfl
    · have ht' : n ≤ t := Nat.le_of_not_lt ht
      rw [Array.getD_eq_getD_getElem?, Array.getElem?_eq_none (by rw [h.size]; exact ht'), h.out t ht']; rfl
  | const v => rfl
  | global g => rfl
  | func g => rfl

def dOk (n : Nat) : Option Nat → Bool
  | none => true
  | some d => Nat.blt d n

theorem Sm.put {n : Nat} {a : Act} {f : Fr} (h : Sm n a f) {d : Option Nat} (hd : dOk n d = true) (v : Value) : Sm n (a.put d v) (upO f d v) := by
  cases d with
  | none => exact h
  | some d =>
    have hd' : d < n := by rw [← Nat.blt_eq]; exact hd
    refine ⟨by simp [Act.put, h.size], fun i hi => ?_, fun i hi => ?_, h.df⟩
    · show (a.tmps.setIfInBounds d v)[i]? = some (up f d v i)
      unfold up
      cases e : Nat.beq i d
      · have hne : d ≠ i := fun e' => by subst e'; simp at e
        rw [Array.getElem?_setIfInBounds_ne hne]; exact h.at_ i hi
      · have := Nat.eq_of_beq_eq_true e; subst this
        rw [Array.getElem?_setIfInBounds_self_of_lt (by rw [h.size]; exact hi)]; rfl
    · show up f d v i = undef
      unfold up
      cases e : Nat.beq i d
      · exact h.out i hi
      · have := Nat.eq_of_beq_eq_true e; omega

def yl (ops : Array Oper) (f : Fr) (j : Nat) : Option Bool :=
  match ((ops[j]?).bind (·.dst)).map f with
  | some (.bool b) => some b
  | _ => none

section
variable {P : Program} {n : Nat}

/-- The rest of a region; m: in a region that draws its order, ahead of its tail: nothing turns. -/
def wO (P : Program) (ops : Array Oper) (n : Nat) (m : Bool) (l : List Oper) (Q : Fr → World → Prop) (f : Fr) (w : World) : Prop :=
  ∀ a, Sm n a f → match m with
    | false => wpList P ops (fun e a' w' => e = .normal ∧ ∃ f', Sm n a' f' ∧ Q f' w') l a w
    | true => wpStill P ops w (fun a' => ∃ f', Sm n a' f' ∧ Q f' w) l a

def wC (P : Program) (n : Nat) (c : Code) (Q : Exit → Fr → World → Prop) (f : Fr) (w : World) : Prop :=
  ∀ a, Sm n a f → c.wp P (fun e a' w' => ∃ f', Sm n a' f' ∧ Q e f' w') a w

def CallsV (P : Program) (g : FuncId) (args : Array Value) (w : World) (R : Value → World → Prop) : Prop :=
  Calls P g args w fun e w' => ∃ v, e = .returned v ∧ R v w'

theorem CallsV.mono {g : FuncId} {args : Array Value} {w : World} {R R' : Value → World → Prop} (h : CallsV P g args w R) (hr : ∀ v w', R v w' → R' v w') : CallsV P g args w R' :=
  Calls.mono h fun _ _ ⟨v, e, r⟩ => ⟨v, e, hr _ _ r⟩

variable {ops : Array Oper} {m : Bool} {rest : List Oper} {o : Oper} {f : Fr} {w w' : World} {Q : Fr → World → Prop}

theorem o_nil (h : Q f w) : wO P ops n m [] Q f w := fun _ ha => by
  cases m with
  | false => exact wpList_nil ⟨rfl, f, ha, h⟩
  | true => exact wpStill_nil ⟨f, ha, h⟩

theorem o_pure {v : Value} (hg : o.guard = none) (hd : dOk n o.dst = true) (hrun : (execOp (ev f) o).run P w = .ok (.value v) w) (h : wO P ops n m rest Q (upO f o.dst v) w) : wO P ops n m (o :: rest) Q f w := by
  intro a ha
  cases m with
  | false =>
    refine wpList_plain hg fun K hK => ?_
    unfold Oper.wp
    rw [ha.eval, hrun]
    exact hK _ _ (h _ (ha.put hd v))
  | true =>
    refine wpStill_step fun K hK => ?_
    rw [if_pos (by simp [Region.wanted, hg])]
    unfold Oper.still
    rw [ha.eval, hrun]
    exact ⟨rfl, hK _ (h _ (ha.put hd v))⟩

theorem o_val {v : Value} (hg : o.guard = none) (hd : dOk n o.dst = true) (hrun : (execOp (ev f) o).run P w = .ok (.value v) w') (h : wO P ops n false rest Q (upO f o.dst v) w') : wO P ops n false (o :: rest) Q f w := by
  intro a ha
  refine wpList_plain hg fun K hK => ?_
  unfold Oper.wp
  rw [ha.eval, hrun]
  exact hK _ _ (h _ (ha.put hd v))

theorem o_skp (hg : o.guard = none) (hd : dOk n o.dst = true) (hrun : (execOp (ev f) o).run P w = .ok .skip w') (h : wO P ops n false rest Q (upO f o.dst undef) w') : wO P ops n false (o :: rest) Q f w := by
  intro a ha
  refine wpList_plain hg fun K hK => ?_
  unfold Oper.wp
  rw [ha.eval, hrun]
  exact hK _ _ (h _ (ha.put hd undef))

theorem o_call {g : FuncId} {args : Array Value} {R : Value → World → Prop} (hg : o.guard = none) (hd : dOk n o.dst = true) (hrun : (execOp (ev f) o).run P w = .ok (.enter g args) w') (hc : CallsV P g args w' R)
    (h : ∀ v w'', R v w'' → wO P ops n false rest Q (upO f o.dst v) w'') : wO P ops n false (o :: rest) Q f w := by
  intro a ha
  refine wpList_plain hg fun K hK => ?_
  unfold Oper.wp
  rw [ha.eval, hrun]
  refine Calls.mono hc ?_
  rintro e w'' ⟨v, rfl, hr⟩
  exact hK _ _ (h v w'' hr _ (ha.put hd v))

theorem yl_eq {a : Act} (ha : Sm n a f) (j : Nat) {d : Nat} (hj : (ops[j]?).bind (·.dst) = some d) {b : Bool} (hb : f d = .bool b) : yielded ops a.tmps j = some b := by
  unfold yielded
  rw [hj]
  have hd : d < n := by
    apply Classical.byContradiction
    intro h
    have := ha.out d (by omega)
    rw [this] at hb
    cases hb
  simp [ha.at_ d hd, hb]

/-- A guarded operation that is wanted: as if it had no guard. -/
theorem o_on {j : Nat} {want : Bool} {dst : Option Tmp} {op : Op} {type : TypeId} {pos : String} {after : Array Edge} {d : Nat} (hj : (ops[j]?).bind (·.dst) = some d) (hb : f d = .bool want)
    (h : ∀ pos after, wO P ops n m (⟨dst, op, type, pos, after, none⟩ :: rest) Q f w) : wO P ops n m (⟨dst, op, type, pos, after, some (j, want)⟩ :: rest) Q f w := by
  intro a ha
  have hy := yl_eq ha j hj hb
  have h1 := h pos after a ha
  have w1 : Region.wanted (⟨dst, op, type, pos, after, some (j, want)⟩ : Oper) (yielded ops a.tmps) = true := by simp [Region.wanted, hy]
  have w2 : Region.wanted (⟨dst, op, type, pos, after, none⟩ : Oper) (yielded ops a.tmps) = true := by simp [Region.wanted]
  cases m with
  | false =>
    change wpList P ops _ _ a w at h1
    change wpList P ops _ _ a w
    unfold wpList at h1 ⊢
    rw [if_pos w1]
    rw [if_pos w2] at h1
    exact h1
  | true =>
    change wpStill P ops w _ _ a at h1
    change wpStill P ops w _ _ a
    unfold wpStill at h1 ⊢
    rw [if_pos w1]
    rw [if_pos w2] at h1
    exact h1

/-- One that isn't. -/
theorem o_off {j : Nat} {want b : Bool} {dst : Option Tmp} {op : Op} {type : TypeId} {pos : String} {after : Array Edge} {d : Nat} (hj : (ops[j]?).bind (·.dst) = some d) (hb : f d = .bool b) (hne : (b == want) = false) (hd : dOk n dst = true)
    (h : wO P ops n m rest Q (upO f dst undef) w) : wO P ops n m (⟨dst, op, type, pos, after, some (j, want)⟩ :: rest) Q f w := by
  intro a ha
  have hy := yl_eq ha j hj hb
  have w1 : Region.wanted (⟨dst, op, type, pos, after, some (j, want)⟩ : Oper) (yielded ops a.tmps) = false := by
    simp only [Region.wanted, hy]
    cases b <;> cases want <;> first | rfl | cases hne
  have h1 := h _ (ha.put hd undef)
  cases m with
  | false =>
    change wpList P ops _ _ a w
    unfold wpList
    rw [if_neg (by rw [w1]; simp)]
    exact h1
  | true =>
    change wpStill P ops w _ _ a
    unfold wpStill
    rw [if_neg (by rw [w1]; simp)]
    exact h1

variable {c c1 c2 : Code} {QC : Exit → Fr → World → Prop}

theorem wC_mono {QC' : Exit → Fr → World → Prop} (h : wC P n c QC f w) (hq : ∀ e f w, QC e f w → QC' e f w) : wC P n c QC' f w :=
  fun a ha => wp_mono (h a ha) fun _ _ _ ⟨f', hf, q⟩ => ⟨f', hf, hq _ _ _ q⟩

theorem wC_region {id : Nat} {l : List Oper} (h : wO P l.toArray n false l (fun f' w' => QC .normal f' w') f w) : wC P n (.region id l.toArray false) QC f w := by
  intro a ha
  refine wp_region_lit (wpList_mono' ?_ (h a ha))
  rintro e a' w' ⟨rfl, f', hf, q⟩
  exact ⟨f', hf, q⟩
where
  wpList_mono' {P : Program} {ops : Array Oper} {Q Q' : Exit → Act → World → Prop} {l : List Oper} {a : Act} {w : World} (hq : ∀ e a w, Q e a w → Q' e a w) (h : wpList P ops Q l a w) : wpList P ops Q' l a w := by
    induction l generalizing a w with
    | nil => exact hq _ _ _ h
    | cons o l ih =>
      unfold wpList at h ⊢
      split
      · rename_i hw
        rw [if_pos hw] at h
        rcases h with h | ⟨h1, h2⟩
        · refine .inl ?_
          unfold Oper.wp at h ⊢
          revert h
          generalize (execOp a.eval o).run P w = r
          intro h
          cases r with
          | ok x w1 =>
            cases x <;> first | exact ih h | exact h | skip
            · rename_i f args
              exact Calls.mono h fun e w2 he => by
                cases e with
                | returned v => exact ih he
                | panicked ch => exact hq _ _ _ he
                | outgrown => obtain ⟨a0, w0, q⟩ := he; exact ⟨a0, w0, hq _ _ _ q⟩
            all_goals first | exact ih h | exact Rows.mono h (fun v w' hv => ih hv) | exact h
          | halt x w1 => cases x <;> first | exact hq _ _ _ h | exact h
        · obtain ⟨a0, w0, q⟩ := h2
          exact .inr ⟨h1, a0, w0, hq _ _ _ q⟩
      · rename_i hw
        rw [if_neg hw] at h
        exact ih h

/-- A region that draws its order, of which all but a chain at its end turn nothing. -/
theorem wC_tail {id : Nat} {l : List Oper} (k : Nat) (hm : P.follows .mixedOrders = true) (hB : Region.lexTailB .any l.toArray k = true)
    (h : wO P l.toArray n true (l.take k) (fun f' w' => wO P l.toArray n false (l.drop k) (fun f'' w'' => QC .normal f'' w'') f' w') f w.drew) : wC P n (.region id l.toArray true) QC f w := by
  intro a ha
  refine wp_region_still_tail k hm hB (wpStill_mono' ?_ (h a ha))
  rintro a' ⟨f', hf, q⟩
  exact wC_region.wpList_mono' (fun e a2 w2 ⟨he, f2, hf2, q2⟩ => by subst he; exact ⟨f2, hf2, q2⟩) (q a' hf)
where
  wpStill_mono' {P : Program} {ops : Array Oper} {w : World} {Q Q' : Act → Prop} {l : List Oper} {a : Act} (hq : ∀ a, Q a → Q' a) (h : wpStill P ops w Q l a) : wpStill P ops w Q' l a := by
    induction l generalizing a with
    | nil => exact hq _ h
    | cons o l ih =>
      unfold wpStill at h ⊢
      split
      · rename_i hw
        rw [if_pos hw] at h
        exact Oper.still_mono (fun a h => ih h) h
      · rename_i hw
        rw [if_neg hw] at h
        exact ih h

/-- One of which nothing turns anything. -/
theorem wC_still {id : Nat} {l : List Oper} (hm : P.follows .mixedOrders = true) (hB : Region.lexB .any l.toArray = true)
    (h : wO P l.toArray n true l (fun f' w' => QC .normal f' w') f w.drew) : wC P n (.region id l.toArray true) QC f w :=
  fun a ha => wp_region_still_lit hm hB (h a ha)

def lp {σ : Type} (QC : Exit → Fr → World → Prop) (S : σ → List (Nat × Value)) (H : σ → World → Prop) (m : σ → Nat) (s : σ) : Exit → Fr → World → Prop
  | .normal, f', w' => ∃ s', fits f' (S s') ∧ H s' w' ∧ m s' < m s
  | e, f', w' => QC e f' w'

def ct {σ : Type} (QC : Exit → Fr → World → Prop) (S : σ → List (Nat × Value)) (H : σ → World → Prop) : Exit → Fr → World → Prop
  | .normal, f', w' => ∃ s, fits f' (S s) ∧ H s w'
  | e, f', w' => QC e f' w'

def sq (P : Program) (n : Nat) (c2 : Code) (QC : Exit → Fr → World → Prop) : Exit → Fr → World → Prop
  | .normal, f, w => wC P n c2 QC f w
  | e, f, w => QC e f w

theorem wC_seq (h : wC P n c1 (sq P n c2 QC) f w) : wC P n (.seq c1 c2) QC f w := by
  intro a ha
  refine wp_seq (wp_mono (h a ha) ?_)
  rintro e a' w' ⟨f', hf, q⟩
  cases e with
  | normal => exact q a' hf
  | _ => exact ⟨f', hf, q⟩

def bk (id : Nat) (QC : Exit → Fr → World → Prop) : Exit → Fr → World → Prop
  | .exit id', f, w => bif Nat.beq id' id then QC .normal f w else QC (.exit id') f w
  | e, f, w => QC e f w

theorem wC_block {id : Nat} (h : wC P n c (bk id QC) f w) : wC P n (.block id c) QC f w := by
  intro a ha
  refine wp_block (wp_mono (h a ha) ?_)
  rintro e a' w' ⟨f', hf, q⟩
  cases e with
  | exit id' =>
    show if id' = id then _ else _
    change bif Nat.beq id' id then QC .normal f' w' else QC (.exit id') f' w' at q
    by_cases e : id' = id
    · subst e; rw [if_pos rfl]; rw [Nat.beq_refl] at q; exact ⟨f', hf, q⟩
    · rw [if_neg e]
      have : Nat.beq id' id = false := by
        cases hh : Nat.beq id' id
        · rfl
        · exact absurd (Nat.eq_of_beq_eq_true hh) e
      rw [this] at q
      exact ⟨f', hf, q⟩
  | _ => exact ⟨f', hf, q⟩

theorem wC_skip (h : QC .normal f w) : wC P n .skip QC f w := fun _ ha => wp_skip ⟨f, ha, h⟩
theorem wC_ret (h : QC .ret f w) : wC P n .ret QC f w := fun _ ha => wp_ret ⟨f, ha, h⟩
theorem wC_exit {id : Nat} (h : QC (.exit id) f w) : wC P n (.exit id) QC f w := fun _ ha => wp_exit ⟨f, ha, h⟩
theorem wC_if {x : Operand} (b : Bool) (hx : ev f x = .bool b) (h : wC P n (bif b then c1 else c2) QC f w) : wC P n (.cond x c1 c2) QC f w := by
  intro a ha
  refine wp_cond (t := b) (by rw [ha.eval]; exact hx) ?_
  cases b <;> exact h a ha

/-- The rule for loops: S tells what is in which slots, H what else holds, m falls. -/
theorem wC_loop {σ : Type} (S : σ → List (Nat × Value)) (H : σ → World → Prop) (m : σ → Nat) (s0 : σ) (h0 : fits f (S s0)) (hH : H s0 w)
    (body : ∀ f s w, H s w → wC P n c (lp QC S H m s) (ups f (S s)) w) : wC P n (.loop c) QC f w := by
  intro a ha
  refine wp_loop_ghost (fun k a' w' => ∃ s f', m s = k ∧ Sm n a' f' ∧ fits f' (S s) ∧ H s w') (m s0) ⟨s0, f, rfl, ha, h0, hH⟩ ?_
  rintro _ a1 w1 ⟨s, f1, rfl, ha1, hf1, hs⟩
  have hb := body f1 s w1 hs
  rw [ups_fits hf1] at hb
  refine wp_mono (hb a1 ha1) ?_
  rintro e a2 w2 ⟨f2, hf2, q⟩
  cases e with
  | normal =>
    obtain ⟨s', q1, q2, q3⟩ := q
    exact ⟨m s', q3, s', f2, rfl, hf2, q1, q2⟩
  | _ => exact ⟨f2, hf2, q⟩

/-- A cut: what holds behind the first part is all that the second one may use. -/
theorem wC_cut {σ : Type} (S : σ → List (Nat × Value)) (H : σ → World → Prop) (h1 : wC P n c1 (ct QC S H) f w)
    (h2 : ∀ f s w, H s w → wC P n c2 QC (ups f (S s)) w) : wC P n (.seq c1 c2) QC f w := by
  refine wC_seq (wC_mono h1 ?_)
  intro e f1 w1 q
  cases e with
  | normal =>
    obtain ⟨s, q1, q2⟩ := q
    have := h2 f1 s w1 q2
    rw [ups_fits q1] at this
    exact this
  | _ => exact q

/-! the entry -/
def fr0 (l : List Value) : Fr := fun i => l.getD i undef
def done (R : Value → World → Prop) (r : Fr → Value) : Exit → Fr → World → Prop
  | .ret, f, w => R (r f) w
  | .normal, f, w => R (r f) w
  | _, _, _ => False

theorem calls_of {g : FuncId} {fn : Func} {c : Code} {args : List Value} {w : World} {R : Value → World → Prop} {t : Tmp}
    (hf : P.funcs[g]? = some fn) (hb : fn.body = some c) (hr : fn.results = #[.tmp t]) (ht : Nat.blt t fn.ntmps = true) (hn : Nat.ble args.length fn.ntmps = true)
    (h : wC P fn.ntmps c (done R (fun f => f t)) (fr0 args) w) : CallsV P g args.toArray w R := by
  have ht' : t < fn.ntmps := by rw [← Nat.blt_eq]; exact ht
  have hn' : args.length ≤ fn.ntmps := Nat.le_of_ble_eq_true hn
  refine calls_of_wp hf hb (wp_mono (h _ ⟨by simp; omega, fun i hi => ?_, fun i hi => ?_, rfl⟩) ?_)
  · show _ = some (args.getD i undef)
    rw [List.getD_eq_getElem?_getD]
    by_cases h1 : i < args.length
    · rw [Array.getElem?_append_left (by simpa using h1)]
      simp [h1]
    · rw [Array.getElem?_append_right (by simp; omega)]
      have h2 : args.length ≤ i := Nat.le_of_not_lt h1
      rw [List.getElem?_eq_none h2]
      rw [Array.getElem?_replicate, if_pos (by simp; omega)]
      rfl
  · show args.getD i undef = undef
    rw [List.getD_eq_getElem?_getD, List.getElem?_eq_none (by omega)]; rfl
  · rintro e a w1 ⟨f1, hf1, q⟩
    have hv : a.tmps.getD t undef = f1 t := by
      rw [Array.getD_eq_getD_getElem?, hf1.at_ t ht']; rfl
    cases e with
    | ret => exact ⟨hf1.df, f1 t, by rw [results_tmp hr, hv], _, rfl, q⟩
    | normal => exact ⟨hf1.df, f1 t, by rw [results_tmp hr, hv], _, rfl, q⟩
    | _ => exact q.elim
end
attribute [irreducible] wC wO
end Go.Proofs.Ytfplmdjlgjgbgaa
