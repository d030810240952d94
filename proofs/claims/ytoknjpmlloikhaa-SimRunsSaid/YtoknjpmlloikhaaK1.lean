/- Frames as functions, and the rules of the walk over them: operation by operation, region by region. -/
import Derived.WalkKit
import Derived.Deep.LoopGhost
import Derived.StillTail
import Derived.Below
import Derived.Deep.AppendSrc
import Derived.Laws.CopyRow
import Derived.Laws.MakeOwn
import Derived.Maps.OwnSet
import Derived.Maps.OwnOps
import Derived.Maps.RangeWalk
import Derived.Laws.Tables
namespace Go.Proofs.Ytoknjpmlloikhaa
set_option linter.unusedVariables false
set_option linter.unusedSimpArgs false
open Go

abbrev Fr := Nat → Value
def up (f : Fr) (d : Nat) (v : Value) : Fr := fun i => bif Nat.beq i d then v else f i
def upO (f : Fr) : Option Nat → Value → Fr
  | none, _ => f
  | some d, v => up f d v
def ev (f : Fr) : Operand → Value
  | .tmp t => f t
  | .const v => v
  | .global g => .pointer (some ⟨g, 0, none⟩)
  | .func g => .func (.func g) #[] #[]

theorem up_self {f : Fr} {d : Nat} {v : Value} (h : f d = v) : up f d v = f := by
  funext i
  unfold up
  cases e : Nat.beq i d
  · rfl
  · have := Nat.eq_of_beq_eq_true e; subst this; exact h.symm

/-- A frame fits a list of slots and what is in them. -/
def fits (f : Fr) : List (Nat × Value) → Prop
  | [] => True
  | p :: l => f p.1 = p.2 ∧ fits f l
def ups (f : Fr) : List (Nat × Value) → Fr
  | [] => f
  | p :: l => up (ups f l) p.1 p.2
theorem ups_fits {f : Fr} : ∀ {l : List (Nat × Value)}, fits f l → ups f l = f
  | [], _ => rfl
  | p :: l, h => by
    show up (ups f l) p.1 p.2 = f
    rw [ups_fits h.2]
    exact up_self h.1

structure Sm (n : Nat) (a : Act) (f : Fr) : Prop where
  size : a.tmps.size = n
  at_ : ∀ i, i < n → a.tmps[i]? = some (f i)
  out : ∀ i, n ≤ i → f i = undef
  df : a.defers = []

theorem Sm.eval {n : Nat} {a : Act} {f : Fr} (h : Sm n a f) : a.eval = ev f := by
  funext x
  cases x with
  | tmp t =>
    show a.tmps.getD t undef = f t
    by_cases ht : t < n
    · have := h.at_ t ht
      rw [Array.getD_eq_getD_getElem?, this]; rfl
    · have ht' : n ≤ t := Nat.le_of_not_lt ht
      rw [Array.getD_eq_getD_getElem?, Array.getElem?_eq_none (by rw [h.size]; exact ht'), h.out t ht']; rfl
  | const v => rfl
  | global g => rfl
  | func g => rfl

def dOk (n : Nat) : Option Nat → Bool
  | none => true
  | some d => Nat.blt d n

theorem Sm.put {n : Nat} {a : Act} {f : Fr} (h : Sm n a f) {d : Option Nat} (hd : dOk n d = true) (v : Value) : Sm n (a.put d v) (upO f d v) := by
  cases d with
  | none => exact h
  | some d =>
    have hd' : d < n := by rw [← Nat.blt_eq]; exact hd
    refine ⟨by simp [Act.put, h.size], fun i hi => ?_, fun i hi => ?_, h.df⟩
    · show (a.tmps.setIfInBounds d v)[i]? = some (up f d v i)
      unfold up
      cases e : Nat.beq i d
      · have hne : d ≠ i := fun e' => by subst e'; simp at e
        rw [Array.getElem?_setIfInBounds_ne hne]; exact h.at_ i hi
      · have := Nat.eq_of_beq_eq_true e; subst this
        rw [Array.getElem?_setIfInBounds_self_of_lt (by rw [h.size]; exact hi)]; rfl
    · show up f d v i = undef
      unfold up
      cases e : Nat.beq i d
      · exact h.out i hi
      · have := Nat.eq_of_beq_eq_true e; omega

def yl (ops : Array Oper) (f : Fr) (j : Nat) : Option Bool :=
  match ((ops[j]?).bind (·.dst)).map f with
  | some (.bool b) => some b
  | _ => none

section
variable {P : Program} {n : Nat}

/-- The rest of a region; m: in a region that draws its order, ahead of its tail: nothing turns. -/
def wO (P : Program) (ops : Array Oper) (n : Nat) (m : Bool) (l : List Oper) (Q : Fr → World → Prop) (f : Fr) (w : World) : Prop :=
  ∀ a, Sm n a f → match m with
    | false => wpList P ops (fun e a' w' => e = .normal ∧ ∃ f', Sm n a' f' ∧ Q f' w') l a w
    | true => wpStill P ops w (fun a' => ∃ f', Sm n a' f' ∧ Q f' w) l a

def wC (P : Program) (n : Nat) (c : Code) (Q : Exit → Fr → World → Prop) (f : Fr) (w : World) : Prop :=
  ∀ a, Sm n a f → c.wp P (fun e a' w' => ∃ f', Sm n a' f' ∧ Q e f' w') a w

def CallsV (P : Program) (g : FuncId) (args : Array Value) (w : World) (R : Value → World → Prop) : Prop :=
  Calls P g args w fun e w' => ∃ v, e = .returned v ∧ R v w'

theorem CallsV.mono {g : FuncId} {args : Array Value} {w : World} {R R' : Value → World → Prop} (h : CallsV P g args w R) (hr : ∀ v w', R v w' → R' v w') : CallsV P g args w R' :=
  Calls.mono h fun _ _ ⟨v, e, r⟩ => ⟨v, e, hr _ _ r⟩

variable {ops : Array Oper} {m : Bool} {rest : List Oper} {o : Oper} {f : Fr} {w w' : World} {Q : Fr → World → Prop}

theorem o_nil (h : Q f w) : wO P ops n m [] Q f w := fun _ ha => by
  cases m with
  | false => exact wpList_nil ⟨rfl, f, ha, h⟩
  | true => exact wpStill_nil ⟨f, ha, h⟩

theorem o_pure {v : Value} (hg : o.guard = none) (hd : dOk n o.dst = true) (hrun : (execOp (ev f) o).run P w = .ok (.value v) w) (h : wO P ops n m rest Q (upO f o.dst v) w) : wO P ops n m (o :: rest) Q f w := by
  intro a ha
  cases m with
  | false =>
    refine wpList_plain hg fun K hK => ?_
    unfold Oper.wp
    rw [ha.eval, hrun]
    exact hK _ _ (h _ (ha.put hd v))
  | true =>
    refine wpStill_step fun K hK => ?_
    rw [if_pos (by simp [Region.wanted, hg])]
    unfold Oper.still
    rw [ha.eval, hrun]
    exact ⟨rfl, hK _ (h _ (ha.put hd v))⟩

theorem o_val {v : Value} (hg : o.guard = none) (hd : dOk n o.dst = true) (hrun : (execOp (ev f) o).run P w = .ok (.value v) w') (h : wO P ops n false rest Q (upO f o.dst v) w') : wO P ops n false (o :: rest) Q f w := by
  intro a ha
  refine wpList_plain hg fun K hK => ?_
  unfold Oper.wp
  rw [ha.eval, hrun]
  exact hK _ _ (h _ (ha.put hd v))

theorem o_skp (hg : o.guard = none) (hd : dOk n o.dst = true) (hrun : (execOp (ev f) o).run P w = .ok .skip w') (h : wO P ops n false rest Q (upO f o.dst undef) w') : wO P ops n false (o :: rest) Q f w := by
  intro a ha
  refine wpList_plain hg fun K hK => ?_
  unfold Oper.wp
  rw [ha.eval, hrun]
  exact hK _ _ (h _ (ha.put hd undef))

theorem o_call {g : FuncId} {args : Array Value} {R : Value → World → Prop} (hg : o.guard = none) (hd : dOk n o.dst = true) (hrun : (execOp (ev f) o).run P w = .ok (.enter g args) w') (hc : CallsV P g args w' R)
    (h : ∀ v w'', R v w'' → wO P ops n false rest Q (upO f o.dst v) w'') : wO P ops n false (o :: rest) Q f w := by
  intro a ha
  refine wpList_plain hg fun K hK => ?_
  unfold Oper.wp
  rw [ha.eval, hrun]
  refine Calls.mono hc ?_
  rintro e w'' ⟨v, rfl, hr⟩
  exact hK _ _ (h v w'' hr _ (ha.put hd v))

theorem yl_eq {a : Act} (ha : Sm n a f) (j : Nat) {d : Nat} (hj : (ops[j]?).bind (·.dst) = some d) {b : Bool} (hb : f d = .bool b) : yielded ops a.tmps j = some b := by
  unfold yielded
  rw [hj]
  have hd : d < n := by
    apply Classical.byContradiction
    intro h
    have := ha.out d (by omega)
    rw [this] at hb
    cases hb
  simp [ha.at_ d hd, hb]

/-- A guarded operation that is wanted: as if it had no guard. -/
theorem o_on {j : Nat} {want : Bool} {dst : Option Tmp} {op : Op} {type : TypeId} {pos : String} {after : Array Edge} {d : Nat} (hj : (ops[j]?).bind (·.dst) = some d) (hb : f d = .bool want)
    (h : ∀ pos after, wO P ops n m (⟨dst, op, type, pos, after, none⟩ :: rest) Q f w) : wO P ops n m (⟨dst, op, type, pos, after, some (j, want)⟩ :: rest) Q f w := by
  intro a ha
  have hy := yl_eq ha j hj hb
  have h1 := h pos after a ha
  have w1 : Region.wanted (⟨dst, op, type, pos, after, some (j, want)⟩ : Oper) (yielded ops a.tmps) = true := by simp [Region.wanted, hy]
  have w2 : Region.wanted (⟨dst, op, type, pos, after, none⟩ : Oper) (yielded ops a.tmps) = true := by simp [Region.wanted]
  cases m with
  | false =>
    change wpList P ops _ _ a w at h1
    change wpList P ops _ _ a w
    unfold wpList at h1 ⊢
    rw [if_pos w1]
    rw [if_pos w2] at h1
    exact h1
  | true =>
    change wpStill P ops w _ _ a at h1
    change wpStill P ops w _ _ a
    unfold wpStill at h1 ⊢
    rw [if_pos w1]
    rw [if_pos w2] at h1
    exact h1

/-- One that isn't. -/
theorem o_off {j : Nat} {want b : Bool} {dst : Option Tmp} {op : Op} {type : TypeId} {pos : String} {after : Array Edge} {d : Nat} (hj : (ops[j]?).bind (·.dst) = some d) (hb : f d = .bool b) (hne : (b == want) = false) (hd : dOk n dst = true)
    (h : wO P ops n m rest Q (upO f dst undef) w) : wO P ops n m (⟨dst, op, type, pos, after, some (j, want)⟩ :: rest) Q f w := by
  intro a ha
  have hy := yl_eq ha j hj hb
  have w1 : Region.wanted (⟨dst, op, type, pos, after, some (j, want)⟩ : Oper) (yielded ops a.tmps) = false := by
    simp only [Region.wanted, hy]
    cases b <;> cases want <;> first | rfl | cases hne
  have h1 := h _ (ha.put hd undef)
  cases m with
  | false =>
    change wpList P ops _ _ a w
    unfold wpList
    rw [if_neg (by rw [w1]; simp)]
    exact h1
  | true =>
    change wpStill P ops w _ _ a
    unfold wpStill
    rw [if_neg (by rw [w1]; simp)]
    exact h1

variable {c c1 c2 : Code} {QC : Exit → Fr → World → Prop}

theorem wC_mono {QC' : Exit → Fr → World → Prop} (h : wC P n c QC f w) (hq : ∀ e f w, QC e f w → QC' e f w) : wC P n c QC' f w :=
  fun a ha => wp_mono (h a ha) fun _ _ _ ⟨f', hf, q⟩ => ⟨f', hf, hq _ _ _ q⟩

theorem wC_region {id : Nat} {l : List Oper} (h : wO P l.toArray n false l (fun f' w' => QC .normal f' w') f w) : wC P n (.region id l.toArray false) QC f w := by
  intro a ha
  refine wp_region_lit (wpList_mono' ?_ (h a ha))
  rintro e a' w' ⟨rfl, f', hf, q⟩
  exact ⟨f', hf, q⟩
where
  wpList_mono' {P : Program} {ops : Array Oper} {Q Q' : Exit → Act → World → Prop} {l : List Oper} {a : Act} {w : World} (hq : ∀ e a w, Q e a w → Q' e a w) (h : wpList P ops Q l a w) : wpList P ops Q' l a w := by
    induction l generalizing a w with
    | nil => exact hq _ _ _ h
    | cons o l ih =>
      unfold wpList at h ⊢
      split
      · rename_i hw
        rw [if_pos hw] at h
        rcases h with h | ⟨h1, h2⟩
        · refine .inl ?_
          unfold Oper.wp at h ⊢
          revert h
          generalize (execOp a.eval o).run P w = r
          intro h
          cases r with
          | ok x w1 =>
            cases x <;> first | exact ih h | exact h | skip
            · rename_i f args
              exact Calls.mono h fun e w2 he => by
                cases e with
                | returned v => exact ih he
                | panicked ch => exact hq _ _ _ he
                | outgrown => obtain ⟨a0, w0, q⟩ := he; exact ⟨a0, w0, hq _ _ _ q⟩
            all_goals first | exact ih h | exact Rows.mono h (fun v w' hv => ih hv) | exact h
          | halt x w1 => cases x <;> first | exact hq _ _ _ h | exact h
        · obtain ⟨a0, w0, q⟩ := h2
          exact .inr ⟨h1, a0, w0, hq _ _ _ q⟩
      · rename_i hw
        rw [if_neg hw] at h
        exact ih h

/-- A region that draws its order, of which all but a chain at its end turn nothing. -/
theorem wC_tail {id : Nat} {l : List Oper} (k : Nat) (hm : P.follows .mixedOrders = true) (hB : Region.lexTailB .any l.toArray k = true)
    (h : wO P l.toArray n true (l.take k) (fun f' w' => wO P l.toArray n false (l.drop k) (fun f'' w'' => QC .normal f'' w'') f' w') f w.drew) : wC P n (.region id l.toArray true) QC f w := by
  intro a ha
  refine wp_region_still_tail k hm hB (wpStill_mono' ?_ (h a ha))
  rintro a' ⟨f', hf, q⟩
  exact wC_region.wpList_mono' (fun e a2 w2 ⟨he, f2, hf2, q2⟩ => by subst he; exact ⟨f2, hf2, q2⟩) (q a' hf)
where
  wpStill_mono' {P : Program} {ops : Array Oper} {w : World} {Q Q' : Act → Prop} {l : List Oper} {a : Act} (hq : ∀ a, Q a → Q' a) (h : wpStill P ops w Q l a) : wpStill P ops w Q' l a := by
    induction l generalizing a with
    | nil => exact hq _ h
    | cons o l ih =>
      unfold wpStill at h ⊢
      split
      · rename_i hw
        rw [if_pos hw] at h
        exact Oper.still_mono (fun a h => ih h) h
      · rename_i hw
        rw [if_neg hw] at h
        exact ih h

/-- One of which nothing turns anything. -/
theorem wC_still {id : Nat} {l : List Oper} (hm : P.follows .mixedOrders = true) (hB : Region.lexB .any l.toArray = true)
    (h : wO P l.toArray n true l (fun f' w' => QC .normal f' w') f w.drew) : wC P n (.region id l.toArray true) QC f w :=
  fun a ha => wp_region_still_lit hm hB (h a ha)

def lp {σ : Type} (QC : Exit → Fr → World → Prop) (S : σ → List (Nat × Value)) (H : σ → World → Prop) (m : σ → Nat) (s : σ) : Exit → Fr → World → Prop
  | .normal, f', w' => ∃ s', fits f' (S s') ∧ H s' w' ∧ m s' < m s
  | e, f', w' => QC e f' w'

def ct {σ : Type} (QC : Exit → Fr → World → Prop) (S : σ → List (Nat × Value)) (H : σ → World → Prop) : Exit → Fr → World → Prop
  | .normal, f', w' => ∃ s, fits f' (S s) ∧ H s w'
  | e, f', w' => QC e f' w'

def sq (P : Program) (n : Nat) (c2 : Code) (QC : Exit → Fr → World → Prop) : Exit → Fr → World → Prop
  | .normal, f, w => wC P n c2 QC f w
  | e, f, w => QC e f w

theorem wC_seq (h : wC P n c1 (sq P n c2 QC) f w) : wC P n (.seq c1 c2) QC f w := by
  intro a ha
  refine wp_seq (wp_mono (h a ha) ?_)
  rintro e a' w' ⟨f', hf, q⟩
  cases e with
  | normal => exact q a' hf
  | _ => exact ⟨f', hf, q⟩

def bk (id : Nat) (QC : Exit → Fr → World → Prop) : Exit → Fr → World → Prop
  | .exit id', f, w => bif Nat.beq id' id then QC .normal f w else QC (.exit id') f w
  | e, f, w => QC e f w

theorem wC_block {id : Nat} (h : wC P n c (bk id QC) f w) : wC P n (.block id c) QC f w := by
  intro a ha
  refine wp_block (wp_mono (h a ha) ?_)
  rintro e a' w' ⟨f', hf, q⟩
  cases e with
  | exit id' =>
    show if id' = id then _ else _
    change bif Nat.beq id' id then QC .normal f' w' else QC (.exit id') f' w' at q
    by_cases e : id' = id
    · subst e; rw [if_pos rfl]; rw [Nat.beq_refl] at q; exact ⟨f', hf, q⟩
    · rw [if_neg e]
      have : Nat.beq id' id = false := by
        cases hh : Nat.beq id' id
        · rfl
        · exact absurd (Nat.eq_of_beq_eq_true hh) e
      rw [this] at q
      exact ⟨f', hf, q⟩
  | _ => exact ⟨f', hf, q⟩

theorem wC_skip (h : QC .normal f w) : wC P n .skip QC f w := fun _ ha => wp_skip ⟨f, ha, h⟩
theorem wC_ret (h : QC .ret f w) : wC P n .ret QC f w := fun _ ha => wp_ret ⟨f, ha, h⟩
theorem wC_exit {id : Nat} (h : QC (.exit id) f w) : wC P n (.exit id) QC f w := fun _ ha => wp_exit ⟨f, ha, h⟩
theorem wC_if {x : Operand} (b : Bool) (hx : ev f x = .bool b) (h : wC P n (bif b then c1 else c2) QC f w) : wC P n (.cond x c1 c2) QC f w := by
  intro a ha
  refine wp_cond (t := b) (by rw [ha.eval]; exact hx) ?_
  cases b <;> exact h a ha

/-- The rule for loops: S tells what is in which slots, H what else holds, m falls. -/
theorem wC_loop {σ : Type} (S : σ → List (Nat × Value)) (H : σ → World → Prop) (m : σ → Nat) (s0 : σ) (h0 : fits f (S s0)) (hH : H s0 w)
    (body : ∀ f s w, H s w → wC P n c (lp QC S H m s) (ups f (S s)) w) : wC P n (.loop c) QC f w := by
  intro a ha
  refine wp_loop_ghost (fun k a' w' => ∃ s f', m s = k ∧ Sm n a' f' ∧ fits f' (S s) ∧ H s w') (m s0) ⟨s0, f, rfl, ha, h0, hH⟩ ?_
  rintro _ a1 w1 ⟨s, f1, rfl, ha1, hf1, hs⟩
  have hb := body f1 s w1 hs
  rw [ups_fits hf1] at hb
  refine wp_mono (hb a1 ha1) ?_
  rintro e a2 w2 ⟨f2, hf2, q⟩
  cases e with
  | normal =>
    obtain ⟨s', q1, q2, q3⟩ := q
    exact ⟨m s', q3, s', f2, rfl, hf2, q1, q2⟩
  | _ => exact ⟨f2, hf2, q⟩

/-- A cut: what holds behind the first part is all that the second one may use. -/
theorem wC_cut {σ : Type} (S : σ → List (Nat × Value)) (H : σ → World → Prop) (h1 : wC P n c1 (ct QC S H) f w)
    (h2 : ∀ f s w, H s w → wC P n c2 QC (ups f (S s)) w) : wC P n (.seq c1 c2) QC f w := by
  refine wC_seq (wC_mono h1 ?_)
  intro e f1 w1 q
  cases e with
  | normal =>
    obtain ⟨s, q1, q2⟩ := q
    have := h2 f1 s w1 q2
    rw [ups_fits q1] at this
    exact this
  | _ => exact q

/-! the entry -/
def fr0 (l : List Value) : Fr := fun i => l.getD i undef
def done (R : Value → World → Prop) (r : Fr → Value) : Exit → Fr → World → Prop
  | .ret, f, w => R (r f) w
  | .normal, f, w => R (r f) w
  | _, _, _ => False

theorem calls_of {g : FuncId} {fn : Func} {c : Code} {args : List Value} {w : World} {R : Value → World → Prop} {t : Tmp}
    (hf : P.funcs[g]? = some fn) (hb : fn.body = some c) (hr : fn.results = #[.tmp t]) (ht : Nat.blt t fn.ntmps = true) (hn : Nat.ble args.length fn.ntmps = true)
    (h : wC P fn.ntmps c (done R (fun f => f t)) (fr0 args) w) : CallsV P g args.toArray w R := by
  have ht' : t < fn.ntmps := by rw [← Nat.blt_eq]; exact ht
  have hn' : args.length ≤ fn.ntmps := Nat.le_of_ble_eq_true hn
  refine calls_of_wp hf hb (wp_mono (h _ ⟨by simp; omega, fun i hi => ?_, fun i hi => ?_, rfl⟩) ?_)
  · show _ = some (args.getD i undef)
    rw [List.getD_eq_getElem?_getD]
    by_cases h1 : i < args.length
    · rw [Array.getElem?_append_left (by simpa using h1)]
      simp [h1]
    · rw [Array.getElem?_append_right (by simp; omega)]
      have h2 : args.length ≤ i := Nat.le_of_not_lt h1
      rw [List.getElem?_eq_none h2]
      rw [Array.getElem?_replicate, if_pos (by simp; omega)]
      rfl
  · show args.getD i undef = undef
    rw [List.getD_eq_getElem?_getD, List.getElem?_eq_none (by omega)]; rfl
  · rintro e a w1 ⟨f1, hf1, q⟩
    have hv : a.tmps.getD t undef = f1 t := by
      rw [Array.getD_eq_getD_getElem?, hf1.at_ t ht']; rfl
    cases e with
    | ret => exact ⟨hf1.df, f1 t, by rw [results_tmp hr, hv], _, rfl, q⟩
    | normal => exact ⟨hf1.df, f1 t, by rw [results_tmp hr, hv], _, rfl, q⟩
    | _ => exact q.elim
end
attribute [irreducible] wC wO
section
open Go

theorem i64_in (n : Int) (h : -9223372036854775808 ≤ n ∧ n ≤ 9223372036854775807) : IntKind.i64.wrap n = n := IntWalk.i64_in n h

section
variable {P : Program} {n : Nat} {m : Bool} {ops : Array Oper} {rest : List Oper} {f : Fr} {w : World} {Q : Fr → World → Prop}
variable {d : Tmp} {x y z : Operand} {ty t : TypeId} {pos : String} {after : Array Edge}

theorem o_move (h : wO P ops n m rest Q (up f d (ev f x)) w) (hd : Nat.blt d n = true := by rfl) : wO P ops n m (⟨some d, .move x, ty, pos, after, none⟩ :: rest) Q f w :=
  o_pure rfl hd rfl h
theorem o_assign (h : wO P ops n m rest Q (up f d (ev f x)) w) (hd : Nat.blt d n = true := by rfl) : wO P ops n m (⟨some d, .assign x, ty, pos, after, none⟩ :: rest) Q f w :=
  o_pure rfl hd rfl h
theorem o_pick (b : Bool) (hx : ev f x = .bool b) (h : wO P ops n m rest Q (up f d (bif b then ev f y else ev f z)) w) (hd : Nat.blt d n = true := by rfl) : wO P ops n m (⟨some d, .pick x y z, ty, pos, after, none⟩ :: rest) Q f w := by
  refine o_pure (v := bif b then ev f y else ev f z) rfl hd ?_ h
  show (Sem.run P (do pure (Next.value (if ← asBool (ev f x) then ev f y else ev f z))) w) = _
  rw [hx]
  cases b <;> rfl

theorem o_bin {k : IntKind} {a b : Int} {op : BinOp} {v : Value} {yt : TypeId} (hx : ev f x = .int k a) (hy : ev f y = .int k b) (hv : (binOp op t (.int k a) (.int k b)).run P w = .ok v w)
    (h : wO P ops n m rest Q (up f d v) w) (hd : Nat.blt d n = true := by rfl) : wO P ops n m (⟨some d, .binOp op t x y yt, ty, pos, after, none⟩ :: rest) Q f w := by
  refine o_pure (v := v) rfl hd ?_ h
  show (Sem.run P (do pure (Next.value (← (do eqGuard op t x y (ev f x) (ev f y); binOp op t (ev f x) (ev f y))))) w) = _
  rw [hx, hy]
  have hg : (eqGuard op t x y (.int k a) (.int k b)).run P w = .ok () w := by cases op <;> rfl
  simp [hg, hv, Result.andThen]

theorem o_add {k : IntKind} {a b : Int} {yt : TypeId} (hx : ev f x = .int k a) (hy : ev f y = .int k b) (h : wO P ops n m rest Q (up f d (.int k (k.wrap (a + b)))) w) (hd : Nat.blt d n = true := by rfl) :
    wO P ops n m (⟨some d, .binOp .add t x y yt, ty, pos, after, none⟩ :: rest) Q f w := o_bin hx hy (by cases k <;> rfl) h hd
theorem o_add64 {a b : Int} {yt : TypeId} (hx : ev f x = .int .i64 a) (hy : ev f y = .int .i64 b) (hr : -9223372036854775808 ≤ a + b ∧ a + b ≤ 9223372036854775807) (h : wO P ops n m rest Q (up f d (.int .i64 (a + b))) w) (hd : Nat.blt d n = true := by rfl) :
    wO P ops n m (⟨some d, .binOp .add t x y yt, ty, pos, after, none⟩ :: rest) Q f w := o_add hx hy (by rw [i64_in _ hr]; exact h) hd
theorem o_sub {k : IntKind} {a b : Int} {yt : TypeId} (hx : ev f x = .int k a) (hy : ev f y = .int k b) (h : wO P ops n m rest Q (up f d (.int k (k.wrap (a - b)))) w) (hd : Nat.blt d n = true := by rfl) :
    wO P ops n m (⟨some d, .binOp .sub t x y yt, ty, pos, after, none⟩ :: rest) Q f w := o_bin hx hy (by cases k <;> rfl) h hd
theorem o_sub64 {a b : Int} {yt : TypeId} (hx : ev f x = .int .i64 a) (hy : ev f y = .int .i64 b) (hr : -9223372036854775808 ≤ a - b ∧ a - b ≤ 9223372036854775807) (h : wO P ops n m rest Q (up f d (.int .i64 (a - b))) w) (hd : Nat.blt d n = true := by rfl) :
    wO P ops n m (⟨some d, .binOp .sub t x y yt, ty, pos, after, none⟩ :: rest) Q f w := o_sub hx hy (by rw [i64_in _ hr]; exact h) hd
theorem o_eql {k : IntKind} {a b : Int} {yt : TypeId} (r : Bool) (hx : ev f x = .int k a) (hy : ev f y = .int k b) (hr : (a == b) = r) (h : wO P ops n m rest Q (up f d (.bool r)) w) (hd : Nat.blt d n = true := by rfl) :
    wO P ops n m (⟨some d, .binOp .eql t x y yt, ty, pos, after, none⟩ :: rest) Q f w := o_bin hx hy (by subst hr; cases k <;> rfl) h hd
theorem o_neq {k : IntKind} {a b : Int} {yt : TypeId} (r : Bool) (hx : ev f x = .int k a) (hy : ev f y = .int k b) (hr : (a != b) = r) (h : wO P ops n m rest Q (up f d (.bool r)) w) (hd : Nat.blt d n = true := by rfl) :
    wO P ops n m (⟨some d, .binOp .neq t x y yt, ty, pos, after, none⟩ :: rest) Q f w := o_bin hx hy (by subst hr; cases k <;> rfl) h hd
theorem o_lss {k : IntKind} {a b : Int} {yt : TypeId} (r : Bool) (hx : ev f x = .int k a) (hy : ev f y = .int k b) (hr : decide (a < b) = r) (h : wO P ops n m rest Q (up f d (.bool r)) w) (hd : Nat.blt d n = true := by rfl) :
    wO P ops n m (⟨some d, .binOp .lss t x y yt, ty, pos, after, none⟩ :: rest) Q f w := o_bin hx hy (by subst hr; cases k <;> rfl) h hd
theorem o_leq {k : IntKind} {a b : Int} {yt : TypeId} (r : Bool) (hx : ev f x = .int k a) (hy : ev f y = .int k b) (hr : decide (a ≤ b) = r) (h : wO P ops n m rest Q (up f d (.bool r)) w) (hd : Nat.blt d n = true := by rfl) :
    wO P ops n m (⟨some d, .binOp .leq t x y yt, ty, pos, after, none⟩ :: rest) Q f w := o_bin hx hy (by subst hr; cases k <;> rfl) h hd
theorem o_gtr {k : IntKind} {a b : Int} {yt : TypeId} (r : Bool) (hx : ev f x = .int k a) (hy : ev f y = .int k b) (hr : decide (a > b) = r) (h : wO P ops n m rest Q (up f d (.bool r)) w) (hd : Nat.blt d n = true := by rfl) :
    wO P ops n m (⟨some d, .binOp .gtr t x y yt, ty, pos, after, none⟩ :: rest) Q f w := o_bin hx hy (by subst hr; cases k <;> rfl) h hd
theorem o_geq {k : IntKind} {a b : Int} {yt : TypeId} (r : Bool) (hx : ev f x = .int k a) (hy : ev f y = .int k b) (hr : decide (a ≥ b) = r) (h : wO P ops n m rest Q (up f d (.bool r)) w) (hd : Nat.blt d n = true := by rfl) :
    wO P ops n m (⟨some d, .binOp .geq t x y yt, ty, pos, after, none⟩ :: rest) Q f w := o_bin hx hy (by subst hr; cases k <;> rfl) h hd

/-- !b -/
theorem o_not (b : Bool) (hx : ev f x = .bool b) (h : wO P ops n m rest Q (up f d (.bool (!b))) w) (hd : Nat.blt d n = true := by rfl) : wO P ops n m (⟨some d, .unOp .not t x, ty, pos, after, none⟩ :: rest) Q f w := by
  refine o_pure (v := .bool (!b)) rfl hd ?_ h
  show (Sem.run P (do pure (Next.value (← Op.unary .not (ev f x)))) w) = _
  rw [hx]
  rfl

/-- bools compared -/
theorem run_beq' {a b : Bool} (m : Nat) (ht : P.underlying t = some .bool) : (Op.equalIn (m + 1) t (.bool a) (.bool b)).run P w = .ok (a == b) w := by
  simp [Op.equalIn, run_underlying ht]
theorem run_beq {a b : Bool} (ht : P.underlying t = some .bool) : (Op.equal t (.bool a) (.bool b)).run P w = .ok (a == b) w := run_beq' 9999 ht
theorem o_beq {a b : Bool} {yt : TypeId} (ht : P.underlying t = some .bool) (hx : ev f x = .bool a) (hy : ev f y = .bool b) (h : wO P ops n m rest Q (up f d (.bool (a == b))) w) (hd : Nat.blt d n = true := by rfl) :
    wO P ops n m (⟨some d, .binOp .eql t x y yt, ty, pos, after, none⟩ :: rest) Q f w := by
  refine o_pure (v := .bool (a == b)) rfl hd ?_ h
  show (Sem.run P (do pure (Next.value (← (do eqGuard .eql t x y (ev f x) (ev f y); binOp .eql t (ev f x) (ev f y))))) w) = _
  rw [hx, hy]
  simp [eqGuard, binOp, run_beq ht, Result.andThen]
theorem o_bne {a b : Bool} {yt : TypeId} (ht : P.underlying t = some .bool) (hx : ev f x = .bool a) (hy : ev f y = .bool b) (h : wO P ops n m rest Q (up f d (.bool (!(a == b)))) w) (hd : Nat.blt d n = true := by rfl) :
    wO P ops n m (⟨some d, .binOp .neq t x y yt, ty, pos, after, none⟩ :: rest) Q f w := by
  refine o_pure (v := .bool (!(a == b))) rfl hd ?_ h
  show (Sem.run P (do pure (Next.value (← (do eqGuard .neq t x y (ev f x) (ev f y); binOp .neq t (ev f x) (ev f y))))) w) = _
  rw [hx, hy]
  simp [eqGuard, binOp, run_beq ht, Result.andThen]

theorem o_extract {vs : Array Value} {i : Nat} {v : Value} (hx : ev f x = .tuple vs) (hi : vs[i]? = some v) (h : wO P ops n m rest Q (up f d v) w) (hd : Nat.blt d n = true := by rfl) :
    wO P ops n m (⟨some d, .extract x i, ty, pos, after, none⟩ :: rest) Q f w := by
  refine o_pure (v := v) rfl hd ?_ h
  show (Sem.run P (do pure (Next.value (← Instr.extract (ev f x) i))) w) = _
  rw [hx]
  simp [Instr.extract, hi]

theorem o_func {fn : Fn} {l1 l2 : List Operand} {v1 v2 : List Value} (h1 : l1.map (ev f) = v1) (h2 : l2.map (ev f) = v2) (h : wO P ops n m rest Q (up f d (.func fn v1.toArray v2.toArray)) w) (hd : Nat.blt d n = true := by rfl) :
    wO P ops n m (⟨some d, .makeFunc fn l1.toArray l2.toArray, ty, pos, after, none⟩ :: rest) Q f w := by
  subst h1
  subst h2
  refine o_pure (v := .func fn (l1.map (ev f)).toArray (l2.map (ev f)).toArray) rfl hd ?_ h
  simp [execOp, Instr.makeFunc]

theorem o_len {e : TypeId} {A : Option Addr} {l c : Nat} (ht : P.underlying t = some (.slice e)) (hx : ev f x = .slice A l c) (h : wO P ops n m rest Q (up f d (.int .i64 l)) w) (hd : Nat.blt d n = true := by rfl) :
    wO P ops n m (⟨some d, .call { callee := .builtin .len, args := #[x], argTypes := #[t] }, ty, pos, after, none⟩ :: rest) Q f w := by
  refine o_pure (v := .int .i64 l) rfl hd ?_ h
  simp [execOp, resolve, invoke, builtin, hx, Builtin.len_, run_underlying ht, goInt, Result.andThen]

theorem o_nilck {a : Addr} (hx : ev f x = .pointer (some a)) (h : wO P ops n m rest Q (up f d (.pointer (some a))) w) (hd : Nat.blt d n = true := by rfl) : wO P ops n m (⟨some d, .nilCheck x, ty, pos, after, none⟩ :: rest) Q f w := by
  refine o_pure (v := .pointer (some a)) rfl hd ?_ h
  simp [execOp, hx]

/-- a slice against nil -/
theorem run_snil' {A : Option Addr} {l c : Nat} {e : TypeId} (m : Nat) (ht : P.underlying t = some (.slice e)) : (Op.equalIn (m + 1) t (.slice A l c) (.slice none 0 0)).run P w = .ok A.isNone w := by
  cases A <;> simp [Op.equalIn, run_underlying ht]
theorem o_snil {A : Option Addr} {l c : Nat} {yt e : TypeId} (ht : P.underlying t = some (.slice e)) (hx : ev f x = .slice A l c) (hy : ev f y = .slice none 0 0) (h : wO P ops n m rest Q (up f d (.bool A.isNone)) w) (hd : Nat.blt d n = true := by rfl) :
    wO P ops n m (⟨some d, .binOp .eql t x y yt, ty, pos, after, none⟩ :: rest) Q f w := by
  refine o_pure (v := .bool A.isNone) rfl hd ?_ h
  show (Sem.run P (do pure (Next.value (← (do eqGuard .eql t x y (ev f x) (ev f y); binOp .eql t (ev f x) (ev f y))))) w) = _
  rw [hx, hy]
  have he : (Op.equal t (.slice A l c) (.slice none 0 0)).run P w = .ok A.isNone w := run_snil' 9999 ht
  simp [eqGuard, binOp, he, Result.andThen]

end
end
section
open Go Go.RowKit

abbrev FP := Nat → Prop

structure HP where
  sat : World → FP → Prop
  loc : ∀ {w w' : World} {f : FP}, sat w f → (∀ b, f b → w'.heap[b]? = w.heap[b]?) → sat w' f
  dom : ∀ {w : World} {f : FP}, sat w f → ∀ b, f b → b < w.heap.size

def SF : List HP → World → FP → Prop
  | [], _, f => ∀ b, ¬ f b
  | A :: L, w, f => ∃ f1 f2 : FP, (∀ b, f b ↔ (f1 b ∨ f2 b)) ∧ (∀ b, f1 b → ¬ f2 b) ∧ A.sat w f1 ∧ SF L w f2

theorem SF.loc : ∀ {L : List HP} {w w' : World} {f : FP}, SF L w f → (∀ b, f b → w'.heap[b]? = w.heap[b]?) → SF L w' f
  | [], _, _, _, h, _ => h
  | A :: L, w, w', f, ⟨f1, f2, h1, h2, h3, h4⟩, hk => ⟨f1, f2, h1, h2, A.loc h3 fun b hb => hk b ((h1 b).2 (.inl hb)), SF.loc h4 fun b hb => hk b ((h1 b).2 (.inr hb))⟩

theorem SF.dom : ∀ {L : List HP} {w : World} {f : FP}, SF L w f → ∀ b, f b → b < w.heap.size
  | [], _, _, h, b, hb => absurd hb (h b)
  | A :: L, w, f, ⟨f1, f2, h1, _, h3, h4⟩, b, hb => by
    rcases (h1 b).1 hb with h | h
    · exact A.dom h3 b h
    · exact SF.dom h4 b h

theorem SF.iff : ∀ {L : List HP} {w : World} {f f' : FP}, SF L w f → (∀ b, f' b ↔ f b) → SF L w f'
  | [], _, _, _, h, he => fun b hb => h b ((he b).1 hb)
  | A :: L, w, f, f', ⟨f1, f2, h1, h2, h3, h4⟩, he => ⟨f1, f2, fun b => (he b).trans (h1 b), h2, h3, h4⟩

theorem SF.one {A : HP} {w : World} {f : FP} (h : A.sat w f) : SF [A] w f := ⟨f, fun _ => False, fun b => by simp, fun _ _ h => h, h, fun _ h => h⟩
theorem SF.of_one {A : HP} {w : World} {f : FP} (h : SF [A] w f) : A.sat w f := by
  obtain ⟨f1, f2, h1, _, h3, h4⟩ := h
  have : f = f1 := by funext b; exact propext ((h1 b).trans ⟨fun h => h.elim id fun h => absurd h (h4 b), .inl⟩)
  rw [this]; exact h3

/-- Two lists apart. -/
theorem SF.app : ∀ {L1 L2 : List HP} {w : World} {f : FP}, SF (L1 ++ L2) w f ↔ ∃ f1 f2 : FP, (∀ b, f b ↔ (f1 b ∨ f2 b)) ∧ (∀ b, f1 b → ¬ f2 b) ∧ SF L1 w f1 ∧ SF L2 w f2
  | [], L2, w, f => ⟨fun h => ⟨fun _ => False, f, fun b => by simp, fun _ h => h.elim, fun _ h => h, h⟩, fun ⟨f1, f2, h1, _, h3, h4⟩ => SF.iff (f := f2) h4 fun b => (h1 b).trans ⟨fun h => h.elim (fun h => absurd h (h3 b)) id, .inr⟩⟩
  | A :: L1, L2, w, f => by
    constructor
    · rintro ⟨g1, g2, e1, e2, hA, hr⟩
      obtain ⟨k1, k2, e3, e4, h1, h2⟩ := SF.app.1 hr
      refine ⟨fun b => g1 b ∨ k1 b, k2, fun b => ?_, fun b hb hk => ?_, ⟨g1, k1, fun b => Iff.rfl, fun b h h' => e2 b h ((e3 b).2 (.inl h')), hA, h1⟩, h2⟩
      · rw [e1, e3]; exact ⟨fun h => by rcases h with h | h | h <;> simp [h], fun h => by rcases h with (h | h) | h <;> simp [h]⟩
      · rcases hb with hb | hb
        · exact e2 b hb ((e3 b).2 (.inr hk))
        · exact e4 b hb hk
    · rintro ⟨g1, g2, e1, e2, ⟨k1, k2, e3, e4, hA, h1⟩, h2⟩
      refine ⟨k1, fun b => k2 b ∨ g2 b, fun b => ?_, fun b hb hk => ?_, hA, SF.app.2 ⟨k2, g2, fun b => Iff.rfl, fun b h h' => e2 b ((e3 b).2 (.inr h)) h', h1, h2⟩⟩
      · rw [e1, e3]; exact ⟨fun h => by rcases h with (h | h) | h <;> simp [h], fun h => by rcases h with h | h | h <;> simp [h]⟩
      · rcases hk with hk | hk
        · exact e4 b hb hk
        · exact e2 b ((e3 b).2 (.inl hb)) hk

theorem SF.swap {L1 L2 : List HP} {w : World} {f : FP} (h : SF (L1 ++ L2) w f) : SF (L2 ++ L1) w f := by
  obtain ⟨f1, f2, h1, h2, h3, h4⟩ := SF.app.1 h
  exact SF.app.2 ⟨f2, f1, fun b => (h1 b).trans Or.comm, fun b hb hb' => h2 b hb' hb, h4, h3⟩

/-- One piece of a list, by its place: taken out, and another one laid in its place. -/
theorem SF.focus : ∀ {L : List HP} {w : World} {f : FP} (i : Nat) {A : HP}, SF L w f → L[i]? = some A →
    ∃ f1 f2 : FP, (∀ b, f b ↔ (f1 b ∨ f2 b)) ∧ (∀ b, f1 b → ¬ f2 b) ∧ A.sat w f1 ∧ SF (L.eraseIdx i) w f2 ∧
      ∀ (w' : World) (A' : HP) (g1 g2 : FP), A'.sat w' g1 → SF (L.eraseIdx i) w' g2 → (∀ b, g1 b → ¬ g2 b) → SF (L.set i A') w' (fun b => g1 b ∨ g2 b)
  | [], _, _, _, _, _, hi => by simp at hi
  | B :: L, w, f, 0, A, ⟨f1, f2, h1, h2, h3, h4⟩, hi => by
    obtain rfl : B = A := by simpa using hi
    exact ⟨f1, f2, h1, h2, h3, h4, fun w' A' g1 g2 k1 k2 k3 => ⟨g1, g2, fun b => Iff.rfl, k3, k1, k2⟩⟩
  | B :: L, w, f, i + 1, A, ⟨f1, f2, h1, h2, h3, h4⟩, hi => by
    obtain ⟨k1, k2, e1, e2, e3, e4, e5⟩ := SF.focus i h4 (by simpa using hi)
    refine ⟨k1, fun b => f1 b ∨ k2 b, fun b => ?_, fun b hb hk => ?_, e3, ⟨f1, k2, fun b => Iff.rfl, fun b hb hk => h2 b hb ((e1 b).2 (.inr hk)), h3, e4⟩, ?_⟩
    · rw [h1, e1]; exact ⟨fun h => by rcases h with h | h | h <;> simp [h], fun h => by rcases h with h | h | h <;> simp [h]⟩
    · rcases hk with hk | hk
      · exact h2 b hk ((e1 b).2 (.inl hb))
      · exact e2 b hb hk
    · rintro w' A' g1 g2 q1 ⟨p1, p2, r1, r2, r3, r4⟩ q3
      refine ⟨p1, fun b => g1 b ∨ p2 b, fun b => ?_, fun b hb hk => ?_, r3, e5 w' A' g1 p2 q1 r4 fun b hb hk => q3 b hb ((r1 b).2 (.inr hk))⟩
      · show (g1 b ∨ g2 b) ↔ (p1 b ∨ (g1 b ∨ p2 b))
        rw [r1]; exact ⟨fun h => by rcases h with h | h | h <;> simp [h], fun h => by rcases h with h | h | h <;> simp [h]⟩
      · rcases hk with hk | hk
        · exact q3 b hk ((r1 b).2 (.inl hb))
        · exact r2 b hb hk

/-- What a step leaves: blocks but those of f are as they were; new ones may be there. -/
structure Step (w : World) (f : FP) (w' : World) : Prop where
  os : w'.os = w.os
  tape : w'.tape = w.tape
  output : w'.output = w.output
  size : w.heap.size ≤ w'.heap.size
  keep : ∀ b, b < w.heap.size → ¬ f b → w'.heap[b]? = w.heap[b]?

theorem Step.refl (w : World) (f : FP) : Step w f w := ⟨rfl, rfl, rfl, Nat.le_refl _, fun _ _ _ => rfl⟩
theorem Step.trans {w w1 w2 : World} {f f1 : FP} (h : Step w f w1) (k : Step w1 f1 w2) (hf : ∀ b, f1 b → f b ∨ w.heap.size ≤ b) : Step w f w2 :=
  ⟨k.os.trans h.os, k.tape.trans h.tape, k.output.trans h.output, Nat.le_trans h.size k.size, fun b hb hn =>
    (k.keep b (Nat.lt_of_lt_of_le hb h.size) fun h1 => (hf b h1).elim hn fun h2 => absurd hb (Nat.not_lt.2 h2)).trans (h.keep b hb hn)⟩
theorem Step.alloc (w : World) (f : FP) (o : Obj) : Step w f (w.alloc o) := by
  have g := World.grownBy_alloc w o none
  exact ⟨g.os, g.tape, g.output, g.size, fun b hb _ => g.block b hb (by simp)⟩
theorem Step.grown {w w' : World} {row : Option Nat} (h : w.grownBy w' row) {f : FP} (hr : ∀ b, row = some b → f b) : Step w f w' :=
  ⟨h.os, h.tape, h.output, h.size, fun b hb hn => h.block b hb fun e => hn (hr b e.symm)⟩
theorem Step.drew (w : World) (f : FP) : Step w f w.drew := ⟨rfl, rfl, rfl, Nat.le_refl _, fun _ _ _ => rfl⟩
theorem Step.setCell (w : World) (a : Addr) (v : Value) {f : FP} (hf : f a.block) : Step w f (w.setCell a v) :=
  ⟨rfl, rfl, rfl, by simp [World.setCell], fun b _ hn => Below.heap_setCell w a v b fun e => hn (e ▸ hf)⟩
theorem Step.mono {w w' : World} {f f' : FP} (h : Step w f w') (hf : ∀ b, f b → f' b) : Step w f' w' := ⟨h.os, h.tape, h.output, h.size, fun b hb hn => h.keep b hb fun h' => hn (hf b h')⟩
theorem Step.below {w w' : World} (h : Step w (fun _ => False) w') : Below w.heap.size w w' := ⟨h.os, h.tape, h.output, h.size, fun b hb => h.keep b hb id⟩
theorem Step.of_below {w w' : World} (h : Below w.heap.size w w') (f : FP) : Step w f w' := ⟨h.os, h.tape, h.output, h.size, fun b hb _ => h.block b hb⟩

/-- Where a call stands: it began in w0 with the blocks f0; now it has L. -/
structure St (w0 : World) (f0 : FP) (L : List HP) (w : World) : Prop where
  step : Step w0 f0 w
  sf : ∃ f, SF L w f ∧ ∀ b, f b → f0 b ∨ w0.heap.size ≤ b

section
variable {w0 w w' : World} {f0 : FP} {L : List HP}

theorem St.start {f : FP} (h : SF L w f) : St w f L w := ⟨Step.refl _ _, f, h, fun _ hb => .inl hb⟩
theorem St.begin (w : World) : St w (fun _ => False) [] w := St.start fun _ h => h

theorem St.focus (h : St w0 f0 L w) (i : Nat) {A : HP} (hi : L[i]? = some A) :
    ∃ f1 : FP, A.sat w f1 ∧ (∀ b, f1 b → f0 b ∨ w0.heap.size ≤ b) ∧
      ∀ (w' : World) (A' : HP) (g1 : FP), Step w f1 w' → A'.sat w' g1 → (∀ b, g1 b → f1 b ∨ w.heap.size ≤ b) → St w0 f0 (L.set i A') w' := by
  obtain ⟨f, hf, hfb⟩ := h.sf
  obtain ⟨f1, f2, e1, e2, e3, e4, e5⟩ := hf.focus i hi
  have hb1 : ∀ b, f1 b → f0 b ∨ w0.heap.size ≤ b := fun b hb => hfb b ((e1 b).2 (.inl hb))
  refine ⟨f1, e3, hb1, fun w' A' g1 hs hA hg => ⟨h.step.trans hs hb1, _, e5 w' A' g1 f2 hA (e4.loc fun b hb => hs.keep b (e4.dom b hb) fun h1 => e2 b h1 hb) ?_, ?_⟩⟩
  · intro b hb hb2
    rcases hg b hb with h1 | h1
    · exact e2 b h1 hb2
    · exact absurd (e4.dom b hb2) (Nat.not_lt.2 h1)
  · rintro b (hb | hb)
    · rcases hg b hb with h1 | h1
      · exact hb1 b h1
      · exact .inr (Nat.le_trans h.step.size h1)
    · exact hfb b ((e1 b).2 (.inr hb))

/-- A step that touches none of what is owned, and lays what is new. -/
theorem St.add (h : St w0 f0 L w) (A : HP) {g : FP} (hs : Step w (fun _ => False) w') (hA : A.sat w' g) (hg : ∀ b, g b → w.heap.size ≤ b) : St w0 f0 (L ++ [A]) w' := by
  obtain ⟨f, hf, hfb⟩ := h.sf
  refine ⟨h.step.trans hs (fun _ h => h.elim), fun b => f b ∨ g b, SF.app.2 ⟨f, g, fun b => Iff.rfl, fun b hb hb' => absurd (hf.dom b hb) (Nat.not_lt.2 (hg b hb')), hf.loc fun b hb => hs.keep b (hf.dom b hb) id, SF.one hA⟩, ?_⟩
  rintro b (hb | hb)
  · exact hfb b hb
  · exact .inr (Nat.le_trans h.step.size (hg b hb))

theorem St.idle (h : St w0 f0 L w) (hs : Step w (fun _ => False) w') : St w0 f0 L w' := by
  obtain ⟨f, hf, hfb⟩ := h.sf
  exact ⟨h.step.trans hs (fun _ h => h.elim), f, hf.loc fun b hb => hs.keep b (hf.dom b hb) id, hfb⟩

theorem St.drop (h : St w0 f0 L w) (i : Nat) : St w0 f0 (L.eraseIdx i) w := by
  by_cases hi : i < L.length
  · obtain ⟨f, hf, hfb⟩ := h.sf
    obtain ⟨f1, f2, e1, _, _, e4, _⟩ := hf.focus i (List.getElem?_eq_getElem hi)
    exact ⟨h.step, f2, e4, fun b hb => hfb b ((e1 b).2 (.inr hb))⟩
  · rw [List.eraseIdx_of_length_le (by omega)]; exact h

theorem St.nil (h : St w0 f0 L w) : St w0 f0 [] w := ⟨h.step, fun _ => False, fun _ h => h, fun _ h => h.elim⟩

theorem St.rot {L1 L2 : List HP} (h : St w0 f0 (L1 ++ L2) w) : St w0 f0 (L2 ++ L1) w := by
  obtain ⟨f, hf, hfb⟩ := h.sf
  exact ⟨h.step, f, hf.swap, hfb⟩

/-- A call: the first pieces are handed over; what is behind them stays. -/
theorem St.call {L1 L2 : List HP} (h : St w0 f0 (L1 ++ L2) w) :
    ∃ f1 : FP, SF L1 w f1 ∧ (∀ b, f1 b → f0 b ∨ w0.heap.size ≤ b) ∧ ∀ (L' : List HP) (w' : World), St w f1 L' w' → St w0 f0 (L' ++ L2) w' := by
  obtain ⟨f, hf, hfb⟩ := h.sf
  obtain ⟨f1, f2, e1, e2, e3, e4⟩ := SF.app.1 hf
  have hb1 : ∀ b, f1 b → f0 b ∨ w0.heap.size ≤ b := fun b hb => hfb b ((e1 b).2 (.inl hb))
  refine ⟨f1, e3, hb1, fun L' w' ⟨hs, g, hg, hgb⟩ => ⟨h.step.trans hs hb1, fun b => g b ∨ f2 b, SF.app.2 ⟨g, f2, fun b => Iff.rfl, fun b hb hb2 => ?_, hg, e4.loc fun b hb => hs.keep b (e4.dom b hb) fun h1 => e2 b h1 hb⟩, ?_⟩⟩
  · rcases hgb b hb with h1 | h1
    · exact e2 b h1 hb2
    · exact absurd (e4.dom b hb2) (Nat.not_lt.2 h1)
  · rintro b (hb | hb)
    · rcases hgb b hb with h1 | h1
      · exact hb1 b h1
      · exact .inr (Nat.le_trans h.step.size h1)
    · exact hfb b ((e1 b).2 (.inr hb))

/-- A call that is handed nothing. -/
theorem St.call0 (h : St w0 f0 L w) : ∀ (L' : List HP) (w' : World), St w (fun _ => False) L' w' → St w0 f0 (L ++ L') w' := by
  intro L' w' h'
  obtain ⟨f, hf, hfb⟩ := h.sf
  obtain ⟨hs, g, hg, hgb⟩ := h'
  refine ⟨h.step.trans hs fun _ h => h.elim, fun b => f b ∨ g b, SF.app.2 ⟨f, g, fun b => Iff.rfl, fun b hb hb2 => ?_, hf.loc fun b hb => hs.keep b (hf.dom b hb) id, hg⟩, ?_⟩
  · rcases hgb b hb2 with h1 | h1
    · exact h1
    · exact absurd (hf.dom b hb) (Nat.not_lt.2 h1)
  · rintro b (hb | hb)
    · exact hfb b hb
    · rcases hgb b hb with h1 | h1
      · exact h1.elim
      · exact .inr (Nat.le_trans h.step.size h1)
end
end
section
open Go Go.RowKit

/-! ### types, as a program has them -/
structure T1 (P : Program) (t : TypeId) : Prop where
  ag : ∀ w, (isAgg t).run P w = .ok false w
  sz : ∀ w, (sizeOf t).run P w = .ok 1 w
structure TA (P : Program) (t : TypeId) (m : Nat) : Prop where
  ag : ∀ w, (isAgg t).run P w = .ok true w
  sz : ∀ w, (sizeOf t).run P w = .ok m w

theorem add_add' (a : Addr) (i j : Nat) : (a.add i).add j = a.add (i + j) := by
  unfold Addr.add
  by_cases hi : i = 0 <;> by_cases hj : j = 0 <;> simp_all <;> omega
theorem add_block (a : Addr) (i : Nat) : (a.add i).block = a.block := by unfold Addr.add; split <;> rfl
theorem add_zero' (a : Addr) : a.add 0 = a := rfl
theorem add_spot {a : Addr} (h : a.spot = none) (i : Nat) : a.add i = ⟨a.block, a.off + i, none⟩ := by
  obtain ⟨b, o, s⟩ := a
  subst h
  unfold Addr.add
  by_cases hi : i = 0 <;> simp_all

/-! ### a block -/
def blk (b : Nat) (t : TypeId) (cs : List Value) : HP where
  sat w f := (∀ x, f x ↔ x = b) ∧ w.heap[b]? = some (.cells cs.toArray t (0, 0))
  loc := fun ⟨h1, h2⟩ hk => ⟨h1, (hk b ((h1 b).2 rfl)).trans h2⟩
  dom := fun ⟨h1, h2⟩ x hx => by
    obtain rfl := (h1 x).1 hx
    exact (Array.getElem?_eq_some_iff.1 h2).1

/-! ### a row of the call's own -/
def row (A : Option Addr) (n c : Nat) (e : TypeId) (sz : Nat) (cs : List Value) : HP where
  sat w f := cs.length = n * sz ∧ n ≤ c ∧ c ≤ maxLen ∧ match A with
    | none => c = 0 ∧ ∀ b, ¬ f b
    | some a => a.spot = none ∧ (∀ b, f b ↔ b = a.block) ∧ ∃ cur : Array Value, w.heap[a.block]? = some (.cells cur e (0, 0)) ∧ a.off + c * sz ≤ cur.size ∧ (cur.toList.drop a.off).take (n * sz) = cs
  loc := fun {w w' f} ⟨h1, h2, h3, h4⟩ hk => ⟨h1, h2, h3, by
    cases A with
    | none => exact h4
    | some a =>
      obtain ⟨k1, k2, cur, k3, k4⟩ := h4
      exact ⟨k1, k2, cur, (hk _ ((k2 _).2 rfl)).trans k3, k4⟩⟩
  dom := fun {w f} ⟨h1, h2, h3, h4⟩ x hx => by
    cases A with
    | none => exact absurd hx (h4.2 x)
    | some a =>
      obtain ⟨k1, k2, cur, k3, k4⟩ := h4
      obtain rfl := (k2 x).1 hx
      exact (Array.getElem?_eq_some_iff.1 k3).1

/-! ### what is only read -/
def okOf (w : World) (f : FP) : FP := fun b => b < w.heap.size ∧ ¬ f b
def Cells (ok : FP) (w : World) (a : Addr) (cs : List Value) : Prop := ok a.block ∧ ∀ j v, cs[j]? = some v → w.cell? (a.add j) = some v
def RdS (ok : FP) (w : World) (A : Option Addr) (n c sz : Nat) (cs : List Value) : Prop :=
  cs.length = n * sz ∧ n ≤ c ∧ c ≤ maxLen ∧ (n = 0 ∨ ∃ a, A = some a ∧ Cells ok w a cs)

theorem Cells.loc {ok ok' : FP} {w w' : World} {a : Addr} {cs : List Value} (h : Cells ok w a cs) (hk : ∀ b, ok b → ok' b ∧ w'.heap[b]? = w.heap[b]?) : Cells ok' w' a cs :=
  ⟨(hk _ h.1).1, fun j v hj => (World.cell?_of_block (by rw [add_block]; exact (hk _ h.1).2)).trans (h.2 j v hj)⟩
theorem RdS.loc {ok ok' : FP} {w w' : World} {A : Option Addr} {n c sz : Nat} {cs : List Value} (h : RdS ok w A n c sz cs) (hk : ∀ b, ok b → ok' b ∧ w'.heap[b]? = w.heap[b]?) : RdS ok' w' A n c sz cs :=
  ⟨h.1, h.2.1, h.2.2.1, h.2.2.2.imp id fun ⟨a, e, h⟩ => ⟨a, e, h.loc hk⟩⟩

/-- What may be read at the beginning may be read now; and by who is called. -/
theorem St.ok {w0 w : World} {f0 : FP} {L : List HP} (h : St w0 f0 L w) {f1 : FP} (h1 : ∀ b, f1 b → f0 b ∨ w0.heap.size ≤ b) : ∀ b, okOf w0 f0 b → okOf w f1 b ∧ w.heap[b]? = w0.heap[b]? :=
  fun b ⟨hb, hn⟩ => ⟨⟨Nat.lt_of_lt_of_le hb h.step.size, fun hf => (h1 b hf).elim hn fun h' => absurd hb (Nat.not_lt.2 h')⟩, h.step.keep b hb hn⟩
theorem St.ok0 {w0 w : World} {f0 : FP} {L : List HP} (h : St w0 f0 L w) : ∀ b, okOf w0 f0 b → okOf w (fun _ => False) b ∧ w.heap[b]? = w0.heap[b]? := h.ok fun _ h => h.elim

theorem row.rd {A : Option Addr} {n c : Nat} {e : TypeId} {sz : Nat} {cs : List Value} {w : World} {f : FP} (h : (row A n c e sz cs).sat w f) {ok : FP} (hok : ∀ b, f b → ok b) : RdS ok w A n c sz cs := by
  obtain ⟨h1, h2, h3, h4⟩ := h
  refine ⟨h1, h2, h3, ?_⟩
  cases A with
  | none =>
    obtain ⟨rfl, _⟩ := h4
    exact .inl (by omega)
  | some a =>
    obtain ⟨k1, k2, cur, k3, k4, k5⟩ := h4
    refine .inr ⟨a, rfl, hok _ ((k2 _).2 rfl), fun j v hj => ?_⟩
    rw [add_spot k1]
    rw [← k5] at hj
    have hjl : j < n * sz := by
      rw [k5] at hj
      have := (List.getElem?_eq_some_iff.1 hj).1
      omega
    rw [List.getElem?_take_of_lt hjl, List.getElem?_drop] at hj
    simpa [World.cell?, k3] using hj

section
variable {P : Program} {n : Nat} {md : Bool} {ops : Array Oper} {rest : List Oper} {f : Fr} {w w0 : World} {Q : Fr → World → Prop} {f0 : FP} {L : List HP}
variable {d : Tmp} {x y z : Operand} {ty t : TypeId} {pos : String} {after : Array Edge}

theorem ld1 (h : T1 P t) {a : Addr} {v : Value} (hc : w.cell? a = some v) : (loadVar t a).run P w = .ok v w := by
  simp [loadVar, h.ag, hc]
theorem ldA {m : Nat} (h : TA P t m) {a : Addr} {cs : List Value} (hl : cs.length = m) (hc : ∀ j v, cs[j]? = some v → w.cell? (a.add j) = some v) : (loadVar t a).run P w = .ok (.agg cs.toArray) w := by
  subst hl
  simp [loadVar, h.ag, h.sz, run_loadCells_list w a cs hc]

theorem o_load {a : Addr} {v : Value} (hx : ev f x = .pointer (some a)) (hl : (loadVar t a).run P w = .ok v w) (h : wO P ops n md rest Q (up f d v) w) (hd : Nat.blt d n = true := by rfl) :
    wO P ops n md (⟨some d, .load t x, ty, pos, after, none⟩ :: rest) Q f w := by
  refine o_pure (v := v) rfl hd ?_ h
  simp [execOp, hx, Instr.loadAt, Instr.sureAddr, hl]

/-- A load of what is only read. -/
theorem o_ldS1 (hT : T1 P t) (H : St w0 f0 L w) {a : Addr} {cs : List Value} (hC : Cells (okOf w0 f0) w0 a cs) (j : Nat) {v : Value} (hx : ev f x = .pointer (some (a.add j))) (hv : cs[j]? = some v)
    (h : wO P ops n md rest Q (up f d v) w) (hd : Nat.blt d n = true := by rfl) : wO P ops n md (⟨some d, .load t x, ty, pos, after, none⟩ :: rest) Q f w :=
  o_load hx (ld1 hT ((hC.loc H.ok0).2 j v hv)) h hd
theorem o_ldSA {m : Nat} (hT : TA P t m) (H : St w0 f0 L w) {a : Addr} {cs : List Value} (hC : Cells (okOf w0 f0) w0 a cs) (j : Nat) (hx : ev f x = .pointer (some (a.add j))) (hj : j + m ≤ cs.length)
    (h : wO P ops n md rest Q (up f d (.agg ((cs.drop j).take m).toArray)) w) (hd : Nat.blt d n = true := by rfl) : wO P ops n md (⟨some d, .load t x, ty, pos, after, none⟩ :: rest) Q f w := by
  refine o_load hx (ldA hT (by simp; omega) fun i v hi => ?_) h hd
  rw [add_add']
  have him : i < m := by
    have := (List.getElem?_eq_some_iff.1 hi).1
    simp at this; omega
  rw [List.getElem?_take_of_lt him, List.getElem?_drop] at hi
  exact (hC.loc H.ok0).2 _ _ hi

/-- The address of an element. -/
theorem o_idx {e : TypeId} {sz : Nat} (ht : P.underlying t = some (.slice e)) (hz : ∀ w, (sizeOf e).run P w = .ok sz w) {a : Addr} {l c : Nat} {k : IntKind} {i : Int} (hx : ev f x = .slice (some a) l c) (hy : ev f y = .int k i) (h0 : 0 ≤ i) (h1 : i < l)
    (h : wO P ops n md rest Q (up f d (.pointer (some (a.add (i.toNat * sz))))) w) (hd : Nat.blt d n = true := by rfl) : wO P ops n md (⟨some d, .indexAddr t x y, ty, pos, after, none⟩ :: rest) Q f w := by
  refine o_pure (v := .pointer (some (a.add (i.toNat * sz)))) rfl hd ?_ h
  simp [execOp, hx, hy, Instr.indexAt, run_underlying ht, asIntOf, h0, h1, hz]

/-- The address of a field. -/
theorem o_fld {fs : Array Field} {fl : Field} {k m : Nat} (ht : P.underlying t = some (.struct fs)) (hf : fs[k]? = some fl) (hz : ∀ w, (sizeOf fl.type).run P w = .ok (m + 1) w) {a : Addr} (hx : ev f x = .pointer (some a))
    (h : wO P ops n md rest Q (up f d (.pointer (some (a.add fl.offset)))) w) (hd : Nat.blt d n = true := by rfl) : wO P ops n md (⟨some d, .fieldAddr t x k, ty, pos, after, none⟩ :: rest) Q f w := by
  refine o_pure (v := .pointer (some (a.add fl.offset))) rfl hd ?_ h
  simp [execOp, hx, Instr.fieldAt, run_underlying ht, hf, Instr.sureAddr, fieldPlace, hz]

/-! ### a block of the call's own: laid, read, written -/
theorem St.laid (H : St w0 f0 L w) (t : TypeId) (cs : List Value) : St w0 f0 (L ++ [blk w.heap.size t cs]) (w.alloc (.cells cs.toArray t)) :=
  H.add _ (Step.alloc _ _ _) (g := fun x => x = w.heap.size) ⟨fun _ => Iff.rfl, heap_alloc_new w _⟩ fun b hb => Nat.le_of_eq hb.symm

theorem o_alloc {zv : Value} (hz : ∀ w, (zeroValue t).run P w = .ok zv w) (H : St w0 f0 L w)
    (h : ∀ b w', St w0 f0 (L ++ [blk b t zv.cells.toList]) w' → wO P ops n false rest Q (up f d (.pointer (some ⟨b, 0, none⟩))) w') (hd : Nat.blt d n = true := by rfl) :
    wO P ops n false (⟨some d, .alloc t, ty, pos, after, none⟩ :: rest) Q f w := by
  refine o_val (w' := w.alloc (.cells zv.cells t)) (v := .pointer (some ⟨w.heap.size, 0, none⟩)) rfl hd ?_ (h _ _ (H.laid t zv.cells.toList))
  simp [execOp, Instr.alloc, hz, newVar, newRow]

theorem o_box {v : Value} (hx : ev f x = v) (H : St w0 f0 L w)
    (h : ∀ b w', St w0 f0 (L ++ [blk b t v.cells.toList]) w' → wO P ops n false rest Q (up f d (.pointer (some ⟨b, 0, none⟩))) w') (hd : Nat.blt d n = true := by rfl) :
    wO P ops n false (⟨some d, .box t x, ty, pos, after, none⟩ :: rest) Q f w := by
  refine o_val (w' := w.alloc (.cells v.cells t)) (v := .pointer (some ⟨w.heap.size, 0, none⟩)) rfl hd ?_ (h _ _ (H.laid t v.cells.toList))
  simp [execOp, Instr.box, hx, newVar, newRow]

theorem blk.cell {b : Nat} {t : TypeId} {cs : List Value} {w : World} {f : FP} (h : (blk b t cs).sat w f) (j : Nat) : w.cell? ⟨b, j, none⟩ = cs[j]? := by
  simp [World.cell?, h.2]

theorem o_ldB1 {b o : Nat} {tb : TypeId} {cs : List Value} {v : Value} (hT : T1 P t) (H : St w0 f0 L w) (i : Nat) (hi : L[i]? = some (blk b tb cs)) (hx : ev f x = .pointer (some ⟨b, o, none⟩)) (hv : cs[o]? = some v)
    (h : wO P ops n md rest Q (up f d v) w) (hd : Nat.blt d n = true := by rfl) : wO P ops n md (⟨some d, .load t x, ty, pos, after, none⟩ :: rest) Q f w := by
  obtain ⟨f1, hA, _, _⟩ := H.focus i hi
  exact o_load hx (ld1 hT ((blk.cell hA o).trans hv)) h hd
theorem o_ldBA {b o m : Nat} {tb : TypeId} {cs : List Value} (hT : TA P t m) (H : St w0 f0 L w) (i : Nat) (hi : L[i]? = some (blk b tb cs)) (hx : ev f x = .pointer (some ⟨b, o, none⟩)) (hv : o + m ≤ cs.length)
    (h : wO P ops n md rest Q (up f d (.agg ((cs.drop o).take m).toArray)) w) (hd : Nat.blt d n = true := by rfl) : wO P ops n md (⟨some d, .load t x, ty, pos, after, none⟩ :: rest) Q f w := by
  obtain ⟨f1, hA, _, _⟩ := H.focus i hi
  refine o_load hx (ldA hT (by simp; omega) fun j v hj => ?_) h hd
  have hjm : j < m := by
    have := (List.getElem?_eq_some_iff.1 hj).1
    simp at this; omega
  rw [List.getElem?_take_of_lt hjm, List.getElem?_drop] at hj
  rw [add_spot rfl]
  exact (blk.cell hA _).trans hj

/-- cells laid over others -/
def lay (cs : List Value) (o : Nat) (vs : List Value) : List Value := cs.take o ++ vs ++ cs.drop (o + vs.length)
theorem lay_one (cs : List Value) (o : Nat) (v : Value) (ho : o < cs.length) : lay cs o [v] = cs.set o v := by
  unfold lay
  rw [List.set_eq_take_append_cons_drop, if_pos ho]
  simp
theorem lay_all (cs vs : List Value) (h : vs.length = cs.length) : lay cs 0 vs = vs := by
  unfold lay
  rw [Nat.zero_add, h, List.drop_length]
  simp

theorem blk.put {b : Nat} {t : TypeId} {cs : List Value} {w : World} {f : FP} (h : (blk b t cs).sat w f) (o : Nat) (vs : List Value) (hl : o + vs.length ≤ cs.length) (h1 : ∀ v ∈ vs, v.oneCell' = true) :
    ∃ w', (storeCells ⟨b, o, none⟩ vs).run P w = .ok () w' ∧ (blk b t (lay cs o vs)).sat w' f ∧ Step w f w' := by
  refine ⟨_, run_storeCells_at P b o t vs 0 cs.toArray w h.2 (by simpa using hl) h1, ⟨h.1, ?_⟩, ?_⟩
  · have := setRow_heap w b cs.toArray (cs.toArray.toList.take (o + 0) ++ vs ++ cs.toArray.toList.drop (o + 0 + vs.length)).toArray t (0, 0) h.2
    simpa [lay] using this
  · have hs : ∀ (r : Array Value), Step w f (w.setRow b r) := fun r => ⟨rfl, rfl, rfl, by simp [World.setRow], fun x _ hn => by
      have : x ≠ b := fun e => hn ((h.1 x).2 e)
      simp [World.setRow, Array.getElem?_modify, Ne.symm this]⟩
    exact hs _

theorem o_stB {b o : Nat} {tb : TypeId} {cs : List Value} {v : Value} (hz : ∀ w, (sizeOf t).run P w = .ok v.cells.size w) (H : St w0 f0 L w) (i : Nat) (hi : L[i]? = some (blk b tb cs)) (hx : ev f x = .pointer (some ⟨b, o, none⟩)) (hy : ev f y = v)
    (ho : o + v.cells.toList.length ≤ cs.length) (h1 : ∀ u ∈ v.cells.toList, u.oneCell' = true) (h : ∀ w', St w0 f0 (L.set i (blk b tb (lay cs o v.cells.toList))) w' → wO P ops n false rest Q f w') :
    wO P ops n false (⟨none, .store t x y, ty, pos, after, none⟩ :: rest) Q f w := by
  obtain ⟨f1, hA, _, hB⟩ := H.focus i hi
  obtain ⟨w', hrun, hs, hst⟩ := blk.put (P := P) hA o v.cells.toList ho h1
  refine o_skp (w' := w') rfl rfl ?_ (h w' (hB w' _ f1 hst hs fun b hb => .inl hb))
  simp [execOp, hx, hy, Instr.storeAt, Instr.sureAddr, storeVar, hz, hrun]

end
end
section
open Go Go.RowKit

structure TI (P : Program) (e : TypeId) (z : Value) (sz bytes : Nat) : Prop where
  info : ∃ i : TypeInfo, P.info? e = some i ∧ i.zero = some z ∧ i.size = sz ∧ i.bytes = bytes
  zs : z.cells.size = sz
  pos : 0 < sz
  posb : 0 < bytes

theorem TI.of {P : Program} {e : TypeId} {z : Value} {sz bytes : Nat} (h : (P.info? e).map (fun i => (i.zero, i.size, i.bytes)) = some (some z, sz, bytes)) (hz : z.cells.size = sz) (hp : 0 < sz) (hb : 0 < bytes) : TI P e z sz bytes := by
  obtain ⟨i, hi, hzz⟩ := Option.map_eq_some_iff.1 h
  simp only [Prod.mk.injEq] at hzz
  exact ⟨⟨i, hi, hzz.1, hzz.2.1, hzz.2.2⟩, hz, hp, hb⟩
theorem TI.size {P : Program} {e : TypeId} {z : Value} {sz bytes : Nat} (h : TI P e z sz bytes) (w : World) : (sizeOf e).run P w = .ok sz w := by
  obtain ⟨i, hi, _, hs, _⟩ := h.info
  simp [sizeOf, typeInfo, hi, hs]
theorem TI.zero {P : Program} {e : TypeId} {z : Value} {sz bytes : Nat} (h : TI P e z sz bytes) (w : World) : (zeroValue e).run P w = .ok z w := by
  obtain ⟨i, hi, hs, _⟩ := h.info
  simp [zeroValue, typeInfo, hi, hs]

/-! literals -/
theorem foldl_lay (vs : List Value) : ∀ (k : Nat) (off : Nat) (cs : Array Value), off + k + vs.length ≤ cs.size →
    ((vs.zipIdx k).foldl (fun (cs : Array Value) (p : Value × Nat) => cs.setIfInBounds (off + p.2) p.1) cs).toList = lay cs.toList (off + k) vs := by
  induction vs with
  | nil => intro k off cs _; simp [lay]
  | cons v vs ih =>
    intro k off cs hl
    simp only [List.length_cons] at hl
    rw [List.zipIdx_cons, List.foldl_cons, ih (k + 1) off _ (by simp; omega)]
    simp only [lay, Array.toList_setIfInBounds, List.length_cons]
    have hk : off + k < cs.toList.length := by simp; omega
    rw [List.set_eq_take_append_cons_drop, if_pos hk]
    rw [List.append_assoc, List.append_assoc]
    have e1 : (cs.toList.take (off + k) ++ v :: cs.toList.drop (off + k + 1)).take (off + (k + 1)) = cs.toList.take (off + k) ++ [v] := by
      rw [List.take_append]
      simp only [List.length_take]
      rw [Nat.min_eq_left (by omega), List.take_of_length_le (by simp; omega)]
      rw [show off + (k + 1) - (off + k) = 1 by omega]; rfl
    have e2 : (cs.toList.take (off + k) ++ v :: cs.toList.drop (off + k + 1)).drop (off + (k + 1) + vs.length) = cs.toList.drop (off + k + (vs.length + 1)) := by
      rw [List.drop_append]
      simp only [List.length_take]
      rw [Nat.min_eq_left (by omega), List.drop_eq_nil_of_le (by simp; omega), List.nil_append]
      rw [show off + (k + 1) + vs.length - (off + k) = vs.length + 1 by omega, List.drop_succ_cons, List.drop_drop]
      congr 1; omega
    rw [e1, e2, List.append_assoc]; rfl

theorem fill_lay (place : Nat → Option (Nat × Nat)) (off : Nat → Nat) : ∀ (l : List (Nat × Value)) (cs : List Value), (∀ p ∈ l, place p.1 = some (off p.1, p.2.cells.size) ∧ off p.1 + p.2.cells.toList.length ≤ cs.length) →
    Instr.fill place cs.toArray l = some (l.foldl (fun cs p => lay cs (off p.1) p.2.cells.toList) cs).toArray
  | [], cs, _ => rfl
  | (i, v) :: l, cs, h => by
    obtain ⟨h1, h2⟩ := h (i, v) (by simp)
    simp only at h1 h2
    have hlen : (lay cs (off i) v.cells.toList).length = cs.length := by simp only [lay, List.length_append, List.length_take, List.length_drop]; omega
    have ih := fill_lay place off l (lay cs (off i) v.cells.toList) fun p hp => by rw [hlen]; exact h p (by simp [hp])
    have e := foldl_lay v.cells.toList 0 (off i) cs.toArray (by simpa using h2)
    unfold Instr.fill
    rw [h1]
    have h3 : ¬ (v.cells.size ≠ v.cells.size ∨ off i + v.cells.size > cs.toArray.size) := by simp at h2 ⊢; omega
    simp only [decide_not, Bool.or_eq_true, ne_eq, not_true_eq_false, decide_false, decide_true, Bool.not_true, Bool.false_or] at *
    have h4 : (decide (off i + v.cells.size > cs.toArray.size)) = false := by simp at h2 ⊢; omega
    simp only [h4, Bool.false_eq_true, if_false]
    rw [List.foldl_cons, ← ih]
    congr 1
    apply Array.ext'
    rw [← Array.foldl_toList]
    have : (v.cells.zipIdx).toList = v.cells.toList.zipIdx := by simp
    rw [this]
    simpa using e

theorem made_flat (z : Array Value) : ∀ k, (madeCells z (k * z.size)).toList = (List.replicate k z.toList).flatten := by
  have h0 : ∀ m, (madeCells z m).toList = (List.range m).map fun i => z[i % z.size]! := fun m => by simp [madeCells]
  intro k
  induction k with
  | zero => simp [h0]
  | succ k ih =>
    rw [List.replicate_succ, List.flatten_cons, ← ih, h0, h0, Nat.add_mul, Nat.one_mul, Nat.add_comm, List.range_add, List.map_append]
    congr 1
    · apply List.ext_getElem
      · simp
      · intro i h1 h2
        simp at h1
        simp [Nat.mod_eq_of_lt h1, h1]
    · rw [List.map_map]
      apply List.map_congr_left
      intro i _
      simp

section
variable {w : World} {A : Option Addr} {n c sz : Nat} {e : TypeId} {cs : List Value} {f : FP}

theorem row.adr (h : (row A n c e sz cs).sat w f) (hn : 0 < n) : ∃ a, A = some a ∧ a.spot = none := by
  obtain ⟨h1, h2, h3, h4⟩ := h
  cases A with
  | none => obtain ⟨rfl, _⟩ := h4; omega
  | some a => exact ⟨a, rfl, h4.1⟩
theorem row.cell {a : Addr} (h : (row (some a) n c e sz cs).sat w f) {j : Nat} {v : Value} (hj : cs[j]? = some v) : w.cell? (a.add j) = some v := by
  have hr := row.rd h (ok := fun _ => True) fun _ _ => trivial
  rcases hr.2.2.2 with h0 | ⟨a', ha, hc⟩
  · have := (List.getElem?_eq_some_iff.1 hj).1
    rw [hr.1, h0] at this
    omega
  · cases ha
    exact hc.2 j v hj
theorem row.len (h : (row A n c e sz cs).sat w f) : cs.length = n * sz ∧ n ≤ c ∧ c ≤ maxLen := ⟨h.1, h.2.1, h.2.2.1⟩

theorem row.put {P : Program} {a : Addr} (h : (row (some a) n c e sz cs).sat w f) (j : Nat) (vs : List Value) (hl : j + vs.length ≤ cs.length) (h1 : ∀ v ∈ vs, v.oneCell' = true) :
    ∃ w', (storeCells (a.add j) vs).run P w = .ok () w' ∧ (row (some a) n c e sz (lay cs j vs)).sat w' f ∧ Step w f w' := by
  obtain ⟨k0, k1, k2, ks, kf, cur, kh, kc, kt⟩ := h
  have hfit : a.off + j + 0 + vs.length ≤ cur.size := by
    have : n * sz ≤ c * sz := Nat.mul_le_mul_right _ k1
    omega
  rw [add_spot ks]
  refine ⟨_, run_storeCells_at P a.block (a.off + j) e vs 0 cur w kh hfit h1, ⟨by rw [← k0]; simp [lay]; omega, k1, k2, ks, kf, _, setRow_heap w a.block cur _ e _ kh, ?_, ?_⟩, ?_⟩
  · simp
    omega
  · have e1 : cs = (cur.toList.drop a.off).take (n * sz) := kt.symm
    have hcl : (cur.toList.drop a.off).length ≥ n * sz := by
      have : n * sz ≤ c * sz := Nat.mul_le_mul_right _ k1
      simp; omega
    apply List.ext_getElem?
    intro i
    simp only [lay]
    rw [e1]
    by_cases hi : i < n * sz
    · rw [List.getElem?_take_of_lt hi, List.getElem?_drop]
      simp only [Nat.add_zero]
      by_cases h2 : i < j
      · rw [List.append_assoc, List.getElem?_append_left (by simp; omega), List.getElem?_take_of_lt (by omega), List.append_assoc, List.getElem?_append_left (by simp; omega), List.getElem?_take_of_lt h2, List.getElem?_take_of_lt hi, List.getElem?_drop]
      · by_cases h3 : i < j + vs.length
        · rw [List.append_assoc, List.getElem?_append_right (by simp; omega), List.getElem?_append_left (by simp; omega), List.append_assoc, List.getElem?_append_right (by simp; omega), List.getElem?_append_left (by simp; omega)]
          congr 1
          simp
          omega
        · rw [List.append_assoc, List.getElem?_append_right (by simp; omega), List.getElem?_append_right (by simp; omega), List.append_assoc, List.getElem?_append_right (by simp; omega), List.getElem?_append_right (by simp; omega), List.getElem?_drop, List.getElem?_drop, List.getElem?_take_of_lt (by simp; omega), List.getElem?_drop]
          congr 1
          simp
          omega
    · rw [List.getElem?_eq_none (by simp; omega), List.getElem?_eq_none (by simp; omega)]
  · exact ⟨rfl, rfl, rfl, by simp [World.setRow], fun x _ hn => by
      have : x ≠ a.block := fun e => hn ((kf x).2 e)
      simp [World.setRow, Array.getElem?_modify, Ne.symm this]⟩
end

section
variable {P : Program} {w : World} {A : Option Addr} {n c sz bytes : Nat} {t e : TypeId} {z : Value} {cs : List Value} {f : FP}

/-- append, whatever stands behind the length. -/
theorem row.app (ht : P.underlying t = some (.slice e)) (hI : TI P e z sz bytes) (h : (row A n c e sz cs).sat w f) {tx ty : TypeId} {x : Value} {m : Nat} {news : List Value} (hs : Src P sz tx x m news w) (hb : (n + m) * bytes ≤ 140737488355328) :
    ∃ A' c' w' g, (Builtin.append_ #[t, tx] ty #[.slice A n c, x]).run P w = .ok (.slice A' (n + m) c') w' ∧ (row A' (n + m) c' e sz (cs ++ news)).sat w' g ∧ Step w f w' ∧ ∀ b, g b → f b ∨ w.heap.size ≤ b := by
  obtain ⟨i, hi, hz0, hz1, hz2⟩ := hI.info
  subst hz1
  subst hz2
  have hsmall : n + m ≤ 140737488355328 := Nat.le_trans (Nat.le_mul_of_pos_right _ hI.posb) hb
  have hlen : (cs ++ news).length = (n + m) * i.size := by rw [List.length_append, h.1, hs.newsLen, Nat.add_mul]
  have grow : ∀ (hold : (Builtin.firstCells i.size n (.slice A n c)).run P w.drew = .ok cs.toArray w.drew), c < n + m →
      ∃ A' c' w' g, (Builtin.append_ #[t, tx] ty #[.slice A n c, x]).run P w = .ok (.slice A' (n + m) c') w' ∧ (row A' (n + m) c' e i.size (cs ++ news)).sat w' g ∧ Step w f w' ∧ ∀ b, g b → f b ∨ w.heap.size ≤ b := by
    intro hold hg
    have hr := run_append_grow_src (P := P) w t tx ty e i z ht hi hz0 A n c cs hold x m news hs hg (by omega) (growslice_fits (by omega) hb)
    have hge := grownCap_ge w (n + m) c e
    have hcm : grownCap w (n + m) c e ≤ maxLen := grownCap_le_maxLen w (n + m) c e (by simp only [maxLen]; omega)
    refine ⟨_, _, _, fun x => x = w.heap.size, hr, ⟨hlen, hge, hcm, rfl, fun _ => Iff.rfl, _, heap_alloc_new w.drew _, ?_, ?_⟩, ?_, fun b hb => .inr (Nat.le_of_eq hb.symm)⟩
    · simp only [Array.size_append, List.size_toArray, size_zeroCells, hI.zs, hlen, ← Nat.add_mul, Nat.zero_add]
      refine Nat.mul_le_mul_right _ ?_
      omega
    · simp only [Array.toList_append, List.drop_zero]
      rw [← hlen]
      exact List.take_left
    · exact (Step.drew w f).trans (Step.alloc w.drew f _) fun b hb => .inl hb
  cases A with
  | none =>
    obtain ⟨k0, k1, k2, rfl, k4⟩ := h
    obtain rfl : n = 0 := by omega
    obtain rfl : cs = [] := List.eq_nil_of_length_eq_zero (by simpa using k0)
    by_cases hm : m = 0
    · subst hm
      have hn : news = [] := List.eq_nil_of_length_eq_zero (by simpa using hs.newsLen)
      subst hn
      refine ⟨none, 0, w, f, ?_, ⟨by simp, by omega, by omega, rfl, k4⟩, Step.refl _ _, fun b hb => .inl hb⟩
      rcases hs.kind with ⟨e', hk⟩ | hk <;> simp [Builtin.append_, run_underlying ht, run_underlying hk, sizeOf, typeInfo, hi, hs.len, hs.cells]
    · exact grow (by simp [Builtin.firstCells]) (by omega)
  | some a =>
    by_cases hroom : n + m ≤ c
    · obtain ⟨k0, k1, k2, ks, kf, cur, kh, kc, kt⟩ := h
      have hfit : a.off + n * i.size + 0 + news.length ≤ cur.size := by
        rw [hs.newsLen]
        have : (n + m) * i.size ≤ c * i.size := Nat.mul_le_mul_right _ hroom
        rw [Nat.add_mul] at this
        omega
      have hst := run_storeCells_at P a.block (a.off + n * i.size) e news 0 cur w kh hfit hs.one
      rw [← add_spot ks] at hst
      refine ⟨some a, c, w.setRow a.block (cur.toList.take (a.off + n * i.size + 0) ++ news ++ cur.toList.drop (a.off + n * i.size + 0 + news.length)).toArray, f, ?_,
        ⟨hlen, hroom, k2, ks, kf, (cur.toList.take (a.off + n * i.size + 0) ++ news ++ cur.toList.drop (a.off + n * i.size + 0 + news.length)).toArray, setRow_heap w a.block cur _ e _ kh, ?_, ?_⟩, ?_, fun b hb => .inl hb⟩
      · rcases hs.kind with ⟨e', hk⟩ | hk <;> simp [Builtin.append_, run_underlying ht, run_underlying hk, sizeOf, typeInfo, hi, hs.len, hroom, hs.cells] <;> rw [hst] <;> simp
      · simp
        omega
      · simp only [Nat.add_zero]
        have hdl : a.off ≤ cur.toList.length := by simp; omega
        have hnl : n * i.size ≤ (cur.toList.drop a.off).length := by
          have : n * i.size ≤ c * i.size := Nat.mul_le_mul_right _ k1
          simp; omega
        have e1 : cur.toList.take (a.off + n * i.size) = cur.toList.take a.off ++ cs := by
          rw [← kt, List.take_add]
        rw [e1, List.append_assoc, List.append_assoc, List.drop_append_of_le_length (by simp; omega)]
        have e2 : (List.take a.off cur.toList).drop a.off = [] := List.drop_eq_nil_of_le (by simp; omega)
        rw [e2, List.nil_append, ← List.append_assoc, ← hlen]
        exact List.take_left
      · exact ⟨rfl, rfl, rfl, by simp [World.setRow], fun x _ hn => by
          have : x ≠ a.block := fun e => hn ((kf x).2 e)
          simp [World.setRow, Array.getElem?_modify, Ne.symm this]⟩
    · refine grow ?_ (by omega)
      have := run_firstCells_some (P := P) w.drew i.size n a n c cs h.1 (fun j v hj => by
        have := row.cell h hj
        simpa using this)
      exact this
end
end
section
open Go Go.RowKit

theorem Src.row {P : Program} {w : World} {A : Option Addr} {n c sz : Nat} {e e' tx : TypeId} {cs : List Value} {f : FP} (hk : P.underlying tx = some (.slice e')) (h : (row A n c e sz cs).sat w f) (h1 : ∀ u ∈ cs, u.oneCell' = true) : Src P sz tx (.slice A n c) n cs w := by
  cases A with
  | none =>
    obtain ⟨k0, k1, k2, rfl, k4⟩ := h
    obtain rfl : n = 0 := by omega
    obtain rfl : cs = [] := List.eq_nil_of_length_eq_zero (by simpa using k0)
    exact Src.ofNil w hk 0
  | some a => exact Src.ofSlice w hk a n c cs h.1 (fun j v hj => row.cell h hj) h1
theorem Src.rd {P : Program} {w : World} {A : Option Addr} {n c sz : Nat} {e' tx : TypeId} {cs : List Value} {ok : FP} (hk : P.underlying tx = some (.slice e')) (h : RdS ok w A n c sz cs) (h1 : ∀ u ∈ cs, u.oneCell' = true) : Src P sz tx (.slice A n c) n cs w := by
  obtain ⟨k0, k1, k2, k3⟩ := h
  rcases k3 with rfl | ⟨a, rfl, hc⟩
  · obtain rfl : cs = [] := List.eq_nil_of_length_eq_zero (by simpa using k0)
    cases A with
    | none => exact ⟨.inl ⟨e', hk⟩, fun _ => rfl, by simp [Builtin.firstCells], by simp [Builtin.firstCells], by simp, fun _ h => by cases h⟩
    | some a => exact Src.ofSlice w hk a 0 c [] (by simp) (fun j v hj => by simp at hj) (fun _ h => by cases h)
  · exact Src.ofSlice w hk a n c cs k0 hc.2 h1

theorem St.addNil {w0 w : World} {f0 : FP} {L : List HP} (H : St w0 f0 L w) (e : TypeId) (sz : Nat) : St w0 f0 (L ++ [row none 0 0 e sz []]) w :=
  H.add _ (Step.refl _ _) (g := fun _ => False) ⟨by simp, Nat.le_refl _, Nat.zero_le _, rfl, fun _ h => h⟩ fun _ h => h.elim

section
variable {P : Program} {n : Nat} {md : Bool} {ops : Array Oper} {rest : List Oper} {f : Fr} {w w0 : World} {Q : Fr → World → Prop} {f0 : FP} {L : List HP}
variable {d : Tmp} {x y z : Operand} {ty t : TypeId} {pos : String} {after : Array Edge}
variable {A : Option Addr} {l c sz bytes : Nat} {e : TypeId} {zv : Value} {cs : List Value}

theorem o_idxR (ht : P.underlying t = some (.slice e)) (hI : TI P e zv sz bytes) (H : St w0 f0 L w) (i : Nat) {e' : TypeId} (hi : L[i]? = some (row A l c e' sz cs)) {k : IntKind} {j : Int} (hx : ev f x = .slice A l c) (hy : ev f y = .int k j) (h0 : 0 ≤ j) (h1 : j < l)
    (h : ∀ a, A = some a → a.spot = none → wO P ops n md rest Q (up f d (.pointer (some (a.add (j.toNat * sz))))) w) (hd : Nat.blt d n = true := by rfl) : wO P ops n md (⟨some d, .indexAddr t x y, ty, pos, after, none⟩ :: rest) Q f w := by
  obtain ⟨f1, hA, _, _⟩ := H.focus i hi
  obtain ⟨a, rfl, hs⟩ := row.adr hA (by omega)
  exact o_idx ht hI.size hx hy h0 h1 (h a rfl hs) hd

theorem o_idxS (ht : P.underlying t = some (.slice e)) (hI : TI P e zv sz bytes) {ok : FP} {wr : World} (hR : RdS ok wr A l c sz cs) {k : IntKind} {j : Int} (hx : ev f x = .slice A l c) (hy : ev f y = .int k j) (h0 : 0 ≤ j) (h1 : j < l)
    (h : ∀ a, A = some a → Cells ok wr a cs → wO P ops n md rest Q (up f d (.pointer (some (a.add (j.toNat * sz))))) w) (hd : Nat.blt d n = true := by rfl) : wO P ops n md (⟨some d, .indexAddr t x y, ty, pos, after, none⟩ :: rest) Q f w := by
  rcases hR.2.2.2 with h2 | ⟨a, rfl, hC⟩
  · omega
  · exact o_idx ht hI.size hx hy h0 h1 (h a rfl hC) hd

theorem o_ldR1 {a : Addr} {e' : TypeId} (hT : T1 P t) (H : St w0 f0 L w) (i : Nat) (hi : L[i]? = some (row (some a) l c e' sz cs)) (j : Nat) {v : Value} (hx : ev f x = .pointer (some (a.add j))) (hv : cs[j]? = some v)
    (h : wO P ops n md rest Q (up f d v) w) (hd : Nat.blt d n = true := by rfl) : wO P ops n md (⟨some d, .load t x, ty, pos, after, none⟩ :: rest) Q f w := by
  obtain ⟨f1, hA, _, _⟩ := H.focus i hi
  exact o_load hx (ld1 hT (row.cell hA hv)) h hd
theorem o_ldRA {a : Addr} {m : Nat} {e' : TypeId} (hT : TA P t m) (H : St w0 f0 L w) (i : Nat) (hi : L[i]? = some (row (some a) l c e' sz cs)) (j : Nat) (hx : ev f x = .pointer (some (a.add j))) (hj : j + m ≤ cs.length)
    (h : wO P ops n md rest Q (up f d (.agg ((cs.drop j).take m).toArray)) w) (hd : Nat.blt d n = true := by rfl) : wO P ops n md (⟨some d, .load t x, ty, pos, after, none⟩ :: rest) Q f w := by
  obtain ⟨f1, hA, _, _⟩ := H.focus i hi
  refine o_load hx (ldA hT (by simp; omega) fun k v hk => ?_) h hd
  have hkm : k < m := by
    have := (List.getElem?_eq_some_iff.1 hk).1
    simp at this; omega
  rw [List.getElem?_take_of_lt hkm, List.getElem?_drop] at hk
  rw [add_add']
  exact row.cell hA hk

theorem o_stR {a : Addr} {v : Value} {e' : TypeId} (hz : ∀ w, (sizeOf t).run P w = .ok v.cells.size w) (H : St w0 f0 L w) (i : Nat) (hi : L[i]? = some (row (some a) l c e' sz cs)) (j : Nat) (hx : ev f x = .pointer (some (a.add j))) (hy : ev f y = v)
    (ho : j + v.cells.toList.length ≤ cs.length) (h1 : ∀ u ∈ v.cells.toList, u.oneCell' = true) (h : ∀ w', St w0 f0 (L.set i (row (some a) l c e' sz (lay cs j v.cells.toList))) w' → wO P ops n false rest Q f w') :
    wO P ops n false (⟨none, .store t x y, ty, pos, after, none⟩ :: rest) Q f w := by
  obtain ⟨f1, hA, _, hB⟩ := H.focus i hi
  obtain ⟨w', hrun, hs, hst⟩ := row.put (P := P) hA j v.cells.toList ho h1
  refine o_skp (w' := w') rfl rfl ?_ (h w' (hB w' _ f1 hst hs fun b hb => .inl hb))
  simp [execOp, hx, hy, Instr.storeAt, Instr.sureAddr, storeVar, hz, hrun]

theorem o_app (ht : P.underlying t = some (.slice e)) (hI : TI P e zv sz bytes) (H : St w0 f0 L w) (i : Nat) (hi : L[i]? = some (row A l c e sz cs)) (hx : ev f x = .slice A l c) {tx : TypeId} {m : Nat} {news : List Value} (hs : Src P sz tx (ev f y) m news w)
    (hb : (l + m) * bytes ≤ 140737488355328) (h : ∀ A' c' w', St w0 f0 (L.set i (row A' (l + m) c' e sz (cs ++ news))) w' → wO P ops n false rest Q (up f d (.slice A' (l + m) c')) w') (hd : Nat.blt d n = true := by rfl) :
    wO P ops n false (⟨some d, .call { callee := .builtin .append, args := #[x, y], argTypes := #[t, tx] }, ty, pos, after, none⟩ :: rest) Q f w := by
  obtain ⟨f1, hA, _, hB⟩ := H.focus i hi
  obtain ⟨A', c', w', g, hrun, hs', hst, hg⟩ := row.app (ty := ty) ht hI hA hs hb
  refine o_val (w' := w') (v := .slice A' (l + m) c') rfl hd ?_ (h A' c' w' (hB w' _ g hst hs' hg))
  simp [execOp, resolve, invoke, builtin, hx, hrun]

/-- append of a row that is there, too. -/
theorem o_appR (ht : P.underlying t = some (.slice e)) (hI : TI P e zv sz bytes) (H : St w0 f0 L w) (i k : Nat) (hi : L[i]? = some (row A l c e sz cs)) {A2 : Option Addr} {l2 c2 : Nat} {e2 : TypeId} {cs2 : List Value} (hk : L[k]? = some (row A2 l2 c2 e2 sz cs2))
    (hx : ev f x = .slice A l c) (hy : ev f y = .slice A2 l2 c2) (h1 : ∀ u ∈ cs2, u.oneCell' = true) (hb : (l + l2) * bytes ≤ 140737488355328)
    (h : ∀ A' c' w', St w0 f0 (L.set i (row A' (l + l2) c' e sz (cs ++ cs2))) w' → wO P ops n false rest Q (up f d (.slice A' (l + l2) c')) w') (hd : Nat.blt d n = true := by rfl) :
    wO P ops n false (⟨some d, .call { callee := .builtin .append, args := #[x, y], argTypes := #[t, t] }, ty, pos, after, none⟩ :: rest) Q f w := by
  obtain ⟨f1, hA, _, _⟩ := H.focus k hk
  exact o_app ht hI H i hi hx (by rw [hy]; exact Src.row ht hA h1) hb h hd
/-- append of what is only read. -/
theorem o_appS (ht : P.underlying t = some (.slice e)) (hI : TI P e zv sz bytes) (H : St w0 f0 L w) (i : Nat) (hi : L[i]? = some (row A l c e sz cs)) {A2 : Option Addr} {l2 c2 : Nat} {cs2 : List Value} (hk : RdS (okOf w0 f0) w0 A2 l2 c2 sz cs2)
    (hx : ev f x = .slice A l c) (hy : ev f y = .slice A2 l2 c2) (h1 : ∀ u ∈ cs2, u.oneCell' = true) (hb : (l + l2) * bytes ≤ 140737488355328)
    (h : ∀ A' c' w', St w0 f0 (L.set i (row A' (l + l2) c' e sz (cs ++ cs2))) w' → wO P ops n false rest Q (up f d (.slice A' (l + l2) c')) w') (hd : Nat.blt d n = true := by rfl) :
    wO P ops n false (⟨some d, .call { callee := .builtin .append, args := #[x, y], argTypes := #[t, t] }, ty, pos, after, none⟩ :: rest) Q f w :=
  o_app ht hI H i hi hx (by rw [hy]; exact Src.rd ht (hk.loc H.ok0) h1) hb h hd

/-- A literal: a new row. -/
theorem o_lit {len : Nat} {l : List (Nat × Operand)} {pv : List (Nat × Value)} {cells : List Value} (ht : P.underlying t = some (.slice e)) (hI : TI P e zv sz bytes) (hl : len * sz ≤ 16777216) (hv : l.map (fun p => (p.1, ev f p.2)) = pv)
    (hfit : ∀ p ∈ pv, p.1 < len ∧ p.2.cells.size = sz) (hc : pv.foldl (fun cs p => lay cs (p.1 * sz) p.2.cells.toList) (List.replicate len zv.cells.toList).flatten = cells) (H : St w0 f0 L w)
    (h : ∀ b w', St w0 f0 (L ++ [row (some ⟨b, 0, none⟩) len len e sz cells]) w' → wO P ops n false rest Q (up f d (.slice (some ⟨b, 0, none⟩) len len)) w') (hd : Nat.blt d n = true := by rfl) :
    wO P ops n false (⟨some d, .buildSlice t len l.toArray, ty, pos, after, none⟩ :: rest) Q f w := by
  have hzl : (List.replicate len zv.cells.toList).flatten.length = len * sz := by simp [hI.zs]
  have hlen : ∀ (l : List (Nat × Value)) (cs : List Value), (∀ p ∈ l, p.1 < len ∧ p.2.cells.size = sz) → cs.length = len * sz → (l.foldl (fun cs p => lay cs (p.1 * sz) p.2.cells.toList) cs).length = len * sz := by
    intro l
    induction l with
    | nil => intro cs _ h; exact h
    | cons p l ih =>
      intro cs hp h
      refine ih _ (fun q hq => hp q (by simp [hq])) ?_
      obtain ⟨h1, h2⟩ := hp p (by simp)
      have : (p.1 + 1) * sz ≤ len * sz := Nat.mul_le_mul_right _ h1
      rw [Nat.add_mul] at this
      simp [lay, h2]; omega
  have hcl : cells.length = len * sz := by rw [← hc]; exact hlen pv _ hfit hzl
  have hm : len ≤ maxLen := by
    have : len ≤ len * sz := Nat.le_mul_of_pos_right _ hI.pos
    simp only [maxLen]; omega
  have hfill := fill_lay (fun i => some (i * sz, sz)) (fun i => i * sz) pv (List.replicate len zv.cells.toList).flatten fun p hp => by
    obtain ⟨h1, h2⟩ := hfit p hp
    have : (p.1 + 1) * sz ≤ len * sz := Nat.mul_le_mul_right _ h1
    rw [Nat.add_mul] at this
    refine ⟨by rw [h2], ?_⟩
    rw [hzl, Array.length_toList, h2]; omega
  rw [hc] at hfill
  have hz : (List.replicate len zv.cells.toList).flatten.toArray = (Array.range (len * sz)).map (zv.cells[· % zv.cells.size]!) := by
    apply Array.ext'
    rw [← made_flat, ← hI.zs]; rfl
  rw [hz] at hfill
  refine o_val (w' := w.alloc (.cells cells.toArray e)) (v := .slice (some ⟨w.heap.size, 0, none⟩) len len) rfl hd ?_ (h w.heap.size _ (H.add _ (Step.alloc _ _ _) (g := fun x => x = w.heap.size) ⟨hcl, Nat.le_refl _, hm, rfl, fun _ => Iff.rfl, cells.toArray, heap_alloc_new w _, by simp [hcl], ?_⟩ fun b hb => Nat.le_of_eq hb.symm))
  · have h1 : ¬ (16777216 < len * sz) := by omega
    have hpa : (l.toArray.map fun (i, x) => (i, ev f x)).toList = pv := by rw [← hv]; simp
    by_cases h0 : len * sz = 0
    · have hl0 : len = 0 := by
        rcases Nat.mul_eq_zero.1 h0 with h | h
        · exact h
        · have := hI.pos; omega
      have hp0 : pv = [] := by
        cases pv with
        | nil => rfl
        | cons p _ => have := (hfit p (by simp)).1; omega
      have hl00 : l = [] := by
        rw [hp0] at hv
        simpa using hv
      subst hl00
      have hce : cells = [] := List.eq_nil_of_length_eq_zero (by rw [hcl, h0])
      subst hce
      have hr0 : Array.range 0 = #[] := rfl
      simp [execOp, Instr.buildSlice, run_underlying ht, hI.size, h0, newRow, Instr.fill, hr0]
    · have := congrArg (fun (l : List (Nat × Value)) => Instr.fill (fun i => some (i * sz, sz)) ((Array.range (len * sz)).map (zv.cells[· % zv.cells.size]!)) l) hpa
      simp only [hfill] at this
      simp [execOp, Instr.buildSlice, run_underlying ht, hI.size, hI.zero, h1, h0, newRow]
      simp at this
      simp [this]
  · rw [List.drop_zero, List.take_of_length_le (by simp [hcl])]

/-- make([]T, m) -/
theorem o_make (ht : P.underlying t = some (.slice e)) (hI : TI P e zv sz bytes) {m : Nat} {k k' : IntKind} (hx : ev f x = .int k m) (hy : ev f y = .int k' m) (hb : m * bytes ≤ 281474976710656) (H : St w0 f0 L w)
    (h : ∀ b w', St w0 f0 (L ++ [row (some ⟨b, 0, none⟩) m m e sz (madeCells zv.cells (m * sz)).toList]) w' → wO P ops n false rest Q (up f d (.slice (some ⟨b, 0, none⟩) m m)) w') (hd : Nat.blt d n = true := by rfl) :
    wO P ops n false (⟨some d, .makeSlice t x y, ty, pos, after, none⟩ :: rest) Q f w := by
  obtain ⟨i, hi, hz0, hz1, hz2⟩ := hI.info
  subst hz1
  subst hz2
  have hm : m ≤ 281474976710656 := Nat.le_trans (Nat.le_mul_of_pos_right _ hI.posb) hb
  have hbi : (i.bytes : Int) * (m : Int) ≤ 281474976710656 := by
    have h1 : ((m * i.bytes : Nat) : Int) ≤ 281474976710656 := by omega
    rw [Int.natCast_mul, Int.mul_comm] at h1
    exact h1
  have hr := run_make (P := P) w t e i zv ht hi hz0 k k' m m (by omega) (Int.le_refl _) hbi (by omega)
  simp only [Int.toNat_natCast] at hr
  refine o_val (w' := w.alloc (.cells (madeCells zv.cells (m * i.size)) e)) (v := .slice (some ⟨w.heap.size, 0, none⟩) m m) rfl hd ?_ (h w.heap.size _ (H.add _ (Step.alloc _ _ _) (g := fun x => x = w.heap.size) ⟨?_, Nat.le_refl _, ?_, rfl, fun _ => Iff.rfl, _, heap_alloc_new w _, ?_, ?_⟩ fun b hb => Nat.le_of_eq hb.symm))
  · simp [execOp, hx, hy, hr]
  · rw [Array.length_toList, size_madeCells]
  · simp only [maxLen]; omega
  · rw [size_madeCells]; simp
  · rw [List.drop_zero, List.take_of_length_le]
    rw [Array.length_toList, size_madeCells]
    exact Nat.le_refl _

/-! cuts: the value -/
theorem o_cutL (ht : P.underlying t = some (.slice e)) (hI : TI P e zv sz bytes) {k : IntKind} {j : Int} (hx : ev f x = .slice A l c) (hy : ev f y = .int k j) (h0 : 0 ≤ j) (h1 : j ≤ l)
    (h : wO P ops n md rest Q (up f d (.slice (if c = j.toNat then A else A.map (·.add (j.toNat * sz))) (l - j.toNat) (c - j.toNat))) w) (hd : Nat.blt d n = true := by rfl) : wO P ops n md (⟨some d, .slice t x (some y) none none, ty, pos, after, none⟩ :: rest) Q f w := by
  refine o_pure rfl hd ?_ h
  have h1' : j ≤ (l : Int) := h1
  simp [execOp, hx, hy, Instr.sliceAt, run_underlying ht, Instr.slice, Instr.sliceBounds, Instr.sliceBound, asIntOf, h0, h1', hI.size]
theorem o_cutH (ht : P.underlying t = some (.slice e)) (hI : TI P e zv sz bytes) {k : IntKind} {j : Int} (hx : ev f x = .slice A l c) (hy : ev f y = .int k j) (h0 : 0 ≤ j) (h1 : j ≤ c)
    (h : wO P ops n md rest Q (up f d (.slice A j.toNat c)) w) (hd : Nat.blt d n = true := by rfl) : wO P ops n md (⟨some d, .slice t x none (some y) none, ty, pos, after, none⟩ :: rest) Q f w := by
  refine o_pure (v := .slice A j.toNat c) rfl hd ?_ h
  simp [execOp, hx, hy, Instr.sliceAt, run_underlying ht, Instr.slice, Instr.sliceBounds, Instr.sliceBound, asIntOf, h0, h1, hI.size]
  cases A <;> simp [add_zero']

/-- The row that is left of a cut. -/
theorem row.cutL {w : World} {g : FP} (h : (row A l c e sz cs).sat w g) (j : Nat) (hj : j ≤ l) : (row (if c = j then A else A.map (·.add (j * sz))) (l - j) (c - j) e sz (cs.drop (j * sz))).sat w g := by
  obtain ⟨k0, k1, k2, k3⟩ := h
  refine ⟨by rw [List.length_drop, k0, Nat.sub_mul], by omega, by omega, ?_⟩
  by_cases hcj : c = j
  · rw [if_pos hcj]
    cases A with
    | none => exact ⟨by omega, k3.2⟩
    | some a =>
      obtain ⟨ks, kf, cur, kh, kc, kt⟩ := k3
      have h1 : l - j = 0 := by omega
      refine ⟨ks, kf, cur, kh, by rw [hcj, Nat.sub_self]; omega, ?_⟩
      rw [h1, Nat.zero_mul, List.take_zero, List.drop_eq_nil_of_le]
      rw [k0]; exact Nat.mul_le_mul_right _ (by omega)
  · rw [if_neg hcj]
    cases A with
    | none => exact ⟨by have := k3.1; omega, k3.2⟩
    | some a =>
      obtain ⟨ks, kf, cur, kh, kc, kt⟩ := k3
      show (a.add (j * sz)).spot = none ∧ (∀ b, g b ↔ b = (a.add (j * sz)).block) ∧ ∃ cur, w.heap[(a.add (j * sz)).block]? = some (.cells cur e (0, 0)) ∧ (a.add (j * sz)).off + (c - j) * sz ≤ cur.size ∧ (cur.toList.drop (a.add (j * sz)).off).take ((l - j) * sz) = cs.drop (j * sz)
      rw [add_spot ks]
      refine ⟨rfl, kf, cur, kh, ?_, ?_⟩
      · show a.off + j * sz + (c - j) * sz ≤ cur.size
        rw [Nat.sub_mul]
        have : j * sz ≤ c * sz := Nat.mul_le_mul_right _ (by omega)
        omega
      · show ((cur.toList.drop (a.off + j * sz)).take ((l - j) * sz)) = _
        rw [← kt, List.drop_take, List.drop_drop, Nat.sub_mul]
theorem row.cutH {w : World} {g : FP} (h : (row A l c e sz cs).sat w g) (j : Nat) (hj : j ≤ l) : (row A j c e sz (cs.take (j * sz))).sat w g := by
  obtain ⟨k0, k1, k2, k3⟩ := h
  have hjl : j * sz ≤ l * sz := Nat.mul_le_mul_right _ hj
  refine ⟨by rw [List.length_take, k0]; omega, by omega, by omega, ?_⟩
  cases A with
  | none => exact k3
  | some a =>
    obtain ⟨ks, kf, cur, kh, kc, kt⟩ := k3
    exact ⟨ks, kf, cur, kh, kc, by rw [← kt, List.take_take, Nat.min_eq_left hjl]⟩
theorem St.turn (H : St w0 f0 L w) (i : Nat) {A A' : HP} (hi : L[i]? = some A) (h : ∀ g, A.sat w g → A'.sat w g) : St w0 f0 (L.set i A') w := by
  obtain ⟨f1, hA, _, hB⟩ := H.focus i hi
  exact hB w A' f1 (Step.refl _ _) (h _ hA) fun b hb => .inl hb

/-! calls -/
structure IsF (P : Program) (g : FuncId) (fn : Func) : Prop where
  here : P.funcs[g]? = some fn
  body : fn.body.isSome = true
  name : fn.name ≠ "runtime.NumGoroutine"

theorem o_callF {g : FuncId} {l : List Operand} {vs : List Value} {ats : Array TypeId} {R : Value → World → Prop} {fn : Func} (hF : IsF P g fn) (hv : l.map (ev f) = vs) (hc : CallsV P g vs.toArray w R)
    (h : ∀ v w', R v w' → wO P ops n false rest Q (up f d v) w') (hd : Nat.blt d n = true := by rfl) : wO P ops n false (⟨some d, .call { callee := .value (.func g), args := l.toArray, argTypes := ats }, ty, pos, after, none⟩ :: rest) Q f w := by
  subst hv
  refine o_call (w' := w) (g := g) (args := (l.map (ev f)).toArray) rfl hd ?_ hc h
  obtain ⟨c, hcc⟩ := Option.isSome_iff_exists.1 hF.body
  simp [execOp, resolve, invoke, ev, Deferred.ofValue, callFunc, hF.here, hcc, hF.name]
theorem o_callV {g : FuncId} {captured : List Value} {l : List Operand} {vs : List Value} {ats : Array TypeId} {R : Value → World → Prop} {fn : Func} (hx : ev f x = .func (.func g) #[] captured.toArray) (hF : IsF P g fn) (hv : l.map (ev f) = vs) (hc : CallsV P g (vs ++ captured).toArray w R)
    (h : ∀ v w', R v w' → wO P ops n false rest Q (up f d v) w') (hd : Nat.blt d n = true := by rfl) : wO P ops n false (⟨some d, .call { callee := .value x, args := l.toArray, argTypes := ats }, ty, pos, after, none⟩ :: rest) Q f w := by
  subst hv
  refine o_call (w' := w) (g := g) (args := (l.map (ev f) ++ captured).toArray) rfl hd ?_ hc h
  obtain ⟨c, hcc⟩ := Option.isSome_iff_exists.1 hF.body
  simp [execOp, resolve, invoke, hx, Deferred.ofValue, callFunc, hF.here, hcc, hF.name]
end
end
section
open Go Go.RowKit Go.Maps

/-- How elements of one type are written and read. -/
structure EK (P : Program) (e : TypeId) (α : Type) where
  enc : α → Value
  dat : α → DataW Unit
  zero : α
  good : α → Prop
  put : ∀ x, good x → plainElem P e (enc x) = some (dat x, [])
  inv : ∀ v z, plainElem (H := Unit) P e v = some z → ∃ x, good x ∧ v = enc x ∧ z = (dat x, [])
  inj : ∀ x y, dat x = dat y → x = y
  gz : good zero

noncomputable def ekInt {P : Program} {e : TypeId} {q : IntKind} (he : P.underlying e = some (.int q)) : EK P e Int where
  enc := .int q
  dat := fun x => .lit (.int q x)
  zero := 0
  good := fun x => (Lit.int q x).wf = true
  put := fun x h => plainElem_int he h
  inv := fun v z h => by
    obtain ⟨a, h1, h2, h3⟩ := plainElem_int_inv he h
    exact ⟨a, h3, h1, h2⟩
  inj := fun x y h => by cases h; rfl
  gz := by cases q <;> decide

theorem plainElem_bool_inv {P : Program} {e : TypeId} (he : P.underlying e = some .bool) {v : Value} {z : DataW Unit × List MemPlace} (h : plainElem P e v = some z) : ∃ a, v = .bool a ∧ z = (.lit (.bool a), []) := by
  unfold plainElem at h
  rw [he] at h
  cases v <;> simp at h
  exact ⟨_, rfl, h.symm⟩

noncomputable def ekBool {P : Program} {e : TypeId} (he : P.underlying e = some .bool) : EK P e Bool where
  enc := .bool
  dat := fun x => .lit (.bool x)
  zero := false
  good := fun _ => True
  put := fun x _ => plainElem_bool he x
  inv := fun v z h => by
    obtain ⟨a, h1, h2⟩ := plainElem_bool_inv he h
    exact ⟨a, trivial, h1, h2⟩
  inj := fun x y h => by cases h; rfl
  gz := trivial

def wfi (k : Int) : Prop := -9223372036854775808 ≤ k ∧ k ≤ 9223372036854775807
theorem wfi_iff {k : Int} : wfi k ↔ (Lit.int .i64 k).wf = true := by
  unfold wfi; simp [Lit.wf, IntKind.min, IntKind.max, IntKind.signed, IntKind.bits]

/-- Block b is a map of at most n entries that holds f. -/
def IsM {P : Program} {e : TypeId} {α : Type} (E : EK P e α) (kt : TypeId) (w : World) (b n : Nat) (f : Int → Option α) : Prop :=
  ∃ D : DataW Unit, w.ownsMap P kt (plainElem P e) b n D ∧ (∀ k, f k ≠ none → wfi k) ∧ (∀ k x, f k = some x → E.good x) ∧
    ∀ k, wfi k → Maps.has D (.int .i64 k) = (f k).isSome ∧ ∀ z, D.atKey (.int .i64 k) z = ((f k).map E.dat).getD z

def upd {α : Type} (f : Int → Option α) (k : Int) (x : Option α) : Int → Option α := fun j => if j = k then x else f j
theorem upd_same {α : Type} (f : Int → Option α) (k : Int) (x : Option α) : upd f k x k = x := by simp [upd]
theorem upd_other {α : Type} (f : Int → Option α) {k j : Int} (h : j ≠ k) (x : Option α) : upd f k x j = f j := by simp [upd, h]
theorem lit_ne {a b : Int} (h : a ≠ b) : (Lit.int .i64 a) ≠ (Lit.int .i64 b) := fun e => h (by injection e)
theorem isKey_i (k : Int) : WideAt.IsKeyLit (.int .i64 k) := trivial

section
variable {P : Program} {e kt : TypeId} {α : Type} {E : EK P e α} {w w' : World} {b n : Nat} {f : Int → Option α}

theorem IsM.loc (h : IsM E kt w b n f) (hb : w'.heap[b]? = w.heap[b]?) : IsM E kt w' b n f := by
  obtain ⟨D, ⟨es, c, h1, h2⟩, r⟩ := h
  exact ⟨D, ⟨es, c, hb.trans h1, h2⟩, r⟩
theorem IsM.lt (h : IsM E kt w b n f) : b < w.heap.size := by obtain ⟨D, h, _⟩ := h; exact h.lt
theorem IsM.mono (h : IsM E kt w b n f) {m : Nat} (hm : n ≤ m) : IsM E kt w b m f := by obtain ⟨D, h, r⟩ := h; exact ⟨D, h.mono hm, r⟩
theorem IsM.made (E : EK P e α) (kt : TypeId) (w : World) : IsM E kt (w.alloc (.map #[] 0)) w.heap.size 0 (fun _ => none) :=
  ⟨.map [], World.ownsMap_made _ _ _ _, fun _ h => absurd rfl h, (fun _ _ h => by cases h), fun _ _ => ⟨by simp [Maps.has], fun _ => by simp [DataW.atKey]⟩⟩

variable {t : TypeId}
theorem IsM.look (hk : P.underlying kt = some (.int .i64)) (ht : P.underlying t = some (.map kt e)) (hz : (zeroValue e).run P w = .ok (E.enc E.zero) w) (h : IsM E kt w b n f) {k : Int} (hw : wfi k) :
    (Instr.lookup t (.map (some b)) (.int .i64 k) false).run P w = .ok (E.enc ((f k).getD E.zero)) w := by
  obtain ⟨D, hown, _, _, hD⟩ := h
  obtain ⟨hh, hat⟩ := hD k hw
  obtain ⟨v, ps, hrun, hv⟩ := hown.lookup (int_keyed hk) ht hz (E.put _ E.gz) (keyOf_int_mk hk (wfi_iff.1 hw))
  obtain ⟨y, hy, rfl, hyd⟩ := E.inv _ _ hv
  have e1 := congrArg Prod.fst hyd
  rw [hat] at e1
  have : y = (f k).getD E.zero := by
    cases hf : f k <;> rw [hf] at e1 <;> exact (E.inj _ _ e1).symm
  rw [← this]; exact hrun
theorem IsM.look_ok (hk : P.underlying kt = some (.int .i64)) (ht : P.underlying t = some (.map kt e)) (hz : (zeroValue e).run P w = .ok (E.enc E.zero) w) (h : IsM E kt w b n f) {k : Int} (hw : wfi k) :
    (Instr.lookup t (.map (some b)) (.int .i64 k) true).run P w = .ok (.tuple #[E.enc ((f k).getD E.zero), .bool (f k).isSome]) w := by
  obtain ⟨D, hown, _, _, hD⟩ := h
  obtain ⟨hh, hat⟩ := hD k hw
  obtain ⟨v, ps, hrun, hv⟩ := hown.look_ok (int_keyed hk) ht hz (E.put _ E.gz) (keyOf_int_mk hk (wfi_iff.1 hw))
  obtain ⟨y, hy, rfl, hyd⟩ := E.inv _ _ hv
  have e1 := congrArg Prod.fst hyd
  rw [hat] at e1
  have : y = (f k).getD E.zero := by
    cases hf : f k <;> rw [hf] at e1 <;> exact (E.inj _ _ e1).symm
  rw [← this, ← hh]; exact hrun
theorem IsM.put (hk : P.underlying kt = some (.int .i64)) (ht : P.underlying t = some (.map kt e)) (h : IsM E kt w b n f) {k : Int} (hw : wfi k) {y : α} (hy : E.good y) (hn : n < maxLen) :
    ∃ w', (Instr.mapUpdate t (.map (some b)) (.int .i64 k) (E.enc y)).run P w = .ok () w' ∧ IsM E kt w' b (n + 1) (upd f k (some y)) ∧ w.grownBy w' (some b) := by
  obtain ⟨D, hown, hf1, hf2, hD⟩ := h
  obtain ⟨w', hrun, r1, r2⟩ := hown.update (int_keyed hk) ht hn (keyOf_int_mk hk (wfi_iff.1 hw)) (E.put y hy)
  refine ⟨w', hrun, ⟨_, r1, ?_, ?_, ?_⟩, r2⟩
  · intro j hj
    by_cases e1 : j = k
    · subst e1; exact hw
    · rw [upd_other f e1] at hj; exact hf1 j hj
  · intro j x hj
    by_cases e1 : j = k
    · subst e1; rw [upd_same] at hj; cases hj; exact hy
    · rw [upd_other f e1] at hj; exact hf2 j x hj
  · intro j hj
    by_cases e1 : j = k
    · subst e1
      rw [upd_same]
      exact ⟨by rw [has_put_same hown.isMap (isKey_i _)]; rfl, fun z => by rw [atKey_put_same hown.isMap (isKey_i _)]; rfl⟩
    · rw [upd_other f e1]
      obtain ⟨hh, hat⟩ := hD j hj
      exact ⟨by rw [has_put_other (lit_ne e1)]; exact hh, fun z => by rw [atKey_put_other (lit_ne e1)]; exact hat z⟩
theorem IsM.del (hk : P.underlying kt = some (.int .i64)) (ht : P.underlying t = some (.map kt e)) (h : IsM E kt w b n f) {k : Int} (hw : wfi k) (ty : TypeId) :
    ∃ w', (Builtin.delete_ #[t, kt] ty #[.map (some b), .int .i64 k]).run P w = .ok (.tuple #[]) w' ∧ IsM E kt w' b n (upd f k none) ∧ w.grownBy w' (some b) := by
  obtain ⟨D, hown, hf1, hf2, hD⟩ := h
  obtain ⟨w', hrun, r1, r2⟩ := hown.drop (int_keyed hk) ht (keyOf_int_mk hk (wfi_iff.1 hw)) ty
  refine ⟨w', hrun, ⟨_, r1, ?_, ?_, ?_⟩, r2.grown⟩
  · intro j hj
    by_cases e1 : j = k
    · subst e1; exact hw
    · rw [upd_other f e1] at hj; exact hf1 j hj
  · intro j x hj
    by_cases e1 : j = k
    · subst e1; rw [upd_same] at hj; cases hj
    · rw [upd_other f e1] at hj; exact hf2 j x hj
  · intro j hj
    by_cases e1 : j = k
    · subst e1
      rw [upd_same]
      exact ⟨by rw [has_del_same]; rfl, fun z => by rw [atKey_del_same]; rfl⟩
    · rw [upd_other f e1]
      obtain ⟨hh, hat⟩ := hD j hj
      exact ⟨by rw [has_del_other (lit_ne e1)]; exact hh, fun z => by rw [atKey_del_other (lit_ne e1)]; exact hat z⟩
end

/-- A map of the call's own. -/
def mp {P : Program} {e : TypeId} {α : Type} (E : EK P e α) (kt : TypeId) (b n : Nat) (f : Int → Option α) : HP where
  sat w g := (∀ x, g x ↔ x = b) ∧ IsM E kt w b n f
  loc := fun ⟨h1, h2⟩ hk => ⟨h1, h2.loc (hk b ((h1 b).2 rfl))⟩
  dom := fun ⟨h1, h2⟩ x hx => by obtain rfl := (h1 x).1 hx; exact h2.lt

/-- A map that is only read; nil, too. -/
def RdM {P : Program} {e : TypeId} {α : Type} (E : EK P e α) (kt : TypeId) (ok : FP) (w : World) (v : Option Nat) (n : Nat) (f : Int → Option α) : Prop :=
  (v = none ∧ ∀ k, f k = none) ∨ ∃ b, v = some b ∧ ok b ∧ IsM E kt w b n f
theorem RdM.loc {P : Program} {e kt : TypeId} {α : Type} {E : EK P e α} {ok ok' : FP} {w w' : World} {v : Option Nat} {n : Nat} {f : Int → Option α} (h : RdM E kt ok w v n f) (hk : ∀ b, ok b → ok' b ∧ w'.heap[b]? = w.heap[b]?) : RdM E kt ok' w' v n f :=
  h.imp id fun ⟨b, e, h1, h2⟩ => ⟨b, e, (hk b h1).1, h2.loc (hk b h1).2⟩

section
variable {P : Program} {n : Nat} {md : Bool} {ops : Array Oper} {rest : List Oper} {f : Fr} {w w0 : World} {Q : Fr → World → Prop} {f0 : FP} {L : List HP}
variable {d : Tmp} {x y z : Operand} {ty t kt e : TypeId} {pos : String} {after : Array Edge} {α : Type} {E : EK P e α} {N : Nat} {F : Int → Option α}

theorem o_mkmap (E : EK P e α) (kt : TypeId) (H : St w0 f0 L w) (h : ∀ b w', St w0 f0 (L ++ [mp E kt b 0 fun _ => none]) w' → wO P ops n false rest Q (up f d (.map (some b))) w') (hd : Nat.blt d n = true := by rfl) :
    wO P ops n false (⟨some d, .makeMap t none, ty, pos, after, none⟩ :: rest) Q f w := by
  refine o_val (w' := w.alloc (.map #[] 0)) (v := .map (some w.heap.size)) rfl hd ?_ (h w.heap.size _ (H.add _ (Step.alloc _ _ _) (g := fun x => x = w.heap.size) ⟨fun _ => Iff.rfl, IsM.made E kt w⟩ fun b hb => Nat.le_of_eq hb.symm))
  have := run_makeMap (P := P) t w
  simp [execOp, this]

theorem o_look {b : Nat} {k : Int} (hk : P.underlying kt = some (.int .i64)) (ht : P.underlying t = some (.map kt e)) (hz : ∀ w, (zeroValue e).run P w = .ok (E.enc E.zero) w) (H : St w0 f0 L w) (i : Nat) (hi : L[i]? = some (mp E kt b N F))
    (hx : ev f x = .map (some b)) (hy : ev f y = .int .i64 k) (hw : wfi k) {rv : α} (hv : (F k).getD E.zero = rv) (h : wO P ops n md rest Q (up f d (E.enc rv)) w) (hd : Nat.blt d n = true := by rfl) : wO P ops n md (⟨some d, .lookup t x y false, ty, pos, after, none⟩ :: rest) Q f w := by
  subst hv
  obtain ⟨f1, hA, _, _⟩ := H.focus i hi
  refine o_pure (v := E.enc ((F k).getD E.zero)) rfl hd ?_ h
  simp [execOp, hx, hy, hA.2.look hk ht (hz w) hw]
theorem o_look_ok {b : Nat} {k : Int} (hk : P.underlying kt = some (.int .i64)) (ht : P.underlying t = some (.map kt e)) (hz : ∀ w, (zeroValue e).run P w = .ok (E.enc E.zero) w) (H : St w0 f0 L w) (i : Nat) (hi : L[i]? = some (mp E kt b N F))
    (hx : ev f x = .map (some b)) (hy : ev f y = .int .i64 k) (hw : wfi k) {rv : α} {rb : Bool} (hv : (F k).getD E.zero = rv) (hb : (F k).isSome = rb) (h : wO P ops n md rest Q (up f d (.tuple #[E.enc rv, .bool rb])) w) (hd : Nat.blt d n = true := by rfl) : wO P ops n md (⟨some d, .lookup t x y true, ty, pos, after, none⟩ :: rest) Q f w := by
  subst hv
  subst hb
  obtain ⟨f1, hA, _, _⟩ := H.focus i hi
  refine o_pure (v := .tuple #[E.enc ((F k).getD E.zero), .bool (F k).isSome]) rfl hd ?_ h
  simp [execOp, hx, hy, hA.2.look_ok hk ht (hz w) hw]
theorem o_lookS {v : Option Nat} {k : Int} (hk : P.underlying kt = some (.int .i64)) (ht : P.underlying t = some (.map kt e)) (hz : ∀ w, (zeroValue e).run P w = .ok (E.enc E.zero) w) (H : St w0 f0 L w) (hR : RdM E kt (okOf w0 f0) w0 v N F)
    (hx : ev f x = .map v) (hy : ev f y = .int .i64 k) (hw : wfi k) {rv : α} (hv : (F k).getD E.zero = rv) (h : wO P ops n md rest Q (up f d (E.enc rv)) w) (hd : Nat.blt d n = true := by rfl) : wO P ops n md (⟨some d, .lookup t x y false, ty, pos, after, none⟩ :: rest) Q f w := by
  subst hv
  refine o_pure (v := E.enc ((F k).getD E.zero)) rfl hd ?_ h
  rcases hR.loc H.ok0 with ⟨rfl, h0⟩ | ⟨b, rfl, _, hM⟩
  · have := Maps.look_nil (P := P) (w := w) false (int_keyed hk) ht (hz w) (keyOf_int_mk hk (wfi_iff.1 hw))
    rw [h0]
    simp [execOp, hx, hy, this]
  · simp [execOp, hx, hy, hM.look hk ht (hz w) hw]
theorem o_lookS_ok {v : Option Nat} {k : Int} (hk : P.underlying kt = some (.int .i64)) (ht : P.underlying t = some (.map kt e)) (hz : ∀ w, (zeroValue e).run P w = .ok (E.enc E.zero) w) (H : St w0 f0 L w) (hR : RdM E kt (okOf w0 f0) w0 v N F)
    (hx : ev f x = .map v) (hy : ev f y = .int .i64 k) (hw : wfi k) {rv : α} {rb : Bool} (hv : (F k).getD E.zero = rv) (hb : (F k).isSome = rb) (h : wO P ops n md rest Q (up f d (.tuple #[E.enc rv, .bool rb])) w) (hd : Nat.blt d n = true := by rfl) : wO P ops n md (⟨some d, .lookup t x y true, ty, pos, after, none⟩ :: rest) Q f w := by
  subst hv
  subst hb
  refine o_pure (v := .tuple #[E.enc ((F k).getD E.zero), .bool (F k).isSome]) rfl hd ?_ h
  rcases hR.loc H.ok0 with ⟨rfl, h0⟩ | ⟨b, rfl, _, hM⟩
  · have := Maps.look_nil (P := P) (w := w) true (int_keyed hk) ht (hz w) (keyOf_int_mk hk (wfi_iff.1 hw))
    rw [h0]
    simp [execOp, hx, hy, this]
  · simp [execOp, hx, hy, hM.look_ok hk ht (hz w) hw]

theorem o_put {b : Nat} {k : Int} {yv : α} (hk : P.underlying kt = some (.int .i64)) (ht : P.underlying t = some (.map kt e)) (H : St w0 f0 L w) (i : Nat) (hi : L[i]? = some (mp E kt b N F))
    (hx : ev f x = .map (some b)) (hy : ev f y = .int .i64 k) (hv : ev f z = E.enc yv) (hw : wfi k) (hg : E.good yv) (hn : N < 1000000000) (h : ∀ w', St w0 f0 (L.set i (mp E kt b (N + 1) (upd F k (some yv)))) w' → wO P ops n false rest Q f w') :
    wO P ops n false (⟨none, .mapUpdate t x y z, ty, pos, after, none⟩ :: rest) Q f w := by
  obtain ⟨f1, hA, _, hB⟩ := H.focus i hi
  obtain ⟨w', hrun, r1, r2⟩ := hA.2.put hk ht hw hg (by simp only [maxLen]; omega)
  refine o_skp (w' := w') rfl rfl ?_ (h w' (hB w' _ f1 (Step.grown r2 fun b' hb' => by cases hb'; exact (hA.1 _).2 rfl) ⟨hA.1, r1⟩ fun b hb => .inl hb))
  simp [execOp, hx, hy, hv, hrun]
theorem o_ins {b : Nat} {k : Int} {yv : α} (hk : P.underlying kt = some (.int .i64)) (ht : P.underlying t = some (.map kt e)) (H : St w0 f0 L w) (i : Nat) (hi : L[i]? = some (mp E kt b N F))
    (hx : ev f x = .map (some b)) (hy : ev f y = .int .i64 k) (hv : ev f z = E.enc yv) (hw : wfi k) (hg : E.good yv) (hn : N < 1000000000) (h : ∀ w', St w0 f0 (L.set i (mp E kt b (N + 1) (upd F k (some yv)))) w' → wO P ops n false rest Q f w') :
    wO P ops n false (⟨none, .insert t x y z, ty, pos, after, none⟩ :: rest) Q f w := by
  obtain ⟨f1, hA, _, hB⟩ := H.focus i hi
  obtain ⟨w', hrun, r1, r2⟩ := hA.2.put hk ht hw hg (by simp only [maxLen]; omega)
  refine o_skp (w' := w') rfl rfl ?_ (h w' (hB w' _ f1 (Step.grown r2 fun b' hb' => by cases hb'; exact (hA.1 _).2 rfl) ⟨hA.1, r1⟩ fun b hb => .inl hb))
  simp [execOp, hx, hy, hv, hrun]
theorem o_del {b : Nat} {k : Int} (hk : P.underlying kt = some (.int .i64)) (ht : P.underlying t = some (.map kt e)) (H : St w0 f0 L w) (i : Nat) (hi : L[i]? = some (mp E kt b N F))
    (hx : ev f x = .map (some b)) (hy : ev f y = .int .i64 k) (hw : wfi k) (h : ∀ w', St w0 f0 (L.set i (mp E kt b N (upd F k none))) w' → wO P ops n false rest Q (up f d (.tuple #[])) w') (hd : Nat.blt d n = true := by rfl) :
    wO P ops n false (⟨some d, .call { callee := .builtin .delete, args := #[x, y], argTypes := #[t, kt] }, ty, pos, after, none⟩ :: rest) Q f w := by
  obtain ⟨f1, hA, _, hB⟩ := H.focus i hi
  obtain ⟨w', hrun, r1, r2⟩ := hA.2.del hk ht hw ty
  refine o_val (w' := w') (v := .tuple #[]) rfl hd ?_ (h w' (hB w' _ f1 (Step.grown r2 fun b' hb' => by cases hb'; exact (hA.1 _).2 rfl) ⟨hA.1, r1⟩ fun b hb => .inl hb))
  simp [execOp, resolve, invoke, builtin, hx, hy, hrun]
end
end
section
open Go Go.RowKit Go.Maps Go.ChangeMaps
open Go.WideElems (Fit rg)

/-- The entries of a map, and what they say. -/
def Froz {P : Program} {e : TypeId} {α : Type} (E : EK P e α) (kt : TypeId) (es : Array MapEntry) (clock n : Nat) (f : Int → Option α) : Prop :=
  Fit P kt (plainElem (H := Unit) P e) es clock ∧ es.size ≤ n ∧ (∀ k, f k ≠ none → wfi k) ∧ (∀ k x, f k = some x → E.good x) ∧
    ∀ k, wfi k → Maps.has (DataW.map ((es.toList.map (rg P kt (plainElem (H := Unit) P e))).foldr DataW.insert [])) (.int .i64 k) = (f k).isSome ∧
      ∀ z, (DataW.map ((es.toList.map (rg P kt (plainElem (H := Unit) P e))).foldr DataW.insert [])).atKey (.int .i64 k) z = ((f k).map E.dat).getD z

theorem IsM.froz {P : Program} {e kt : TypeId} {α : Type} {E : EK P e α} {w : World} {b n : Nat} {f : Int → Option α} (h : IsM E kt w b n f) : ∃ es clock, w.heap[b]? = some (.map es clock) ∧ Froz E kt es clock n f := by
  obtain ⟨D, ⟨es, clock, h1, h2, h3, rfl⟩, r⟩ := h
  exact ⟨es, clock, h1, h2, h3, r⟩
theorem IsM.of_froz {P : Program} {e kt : TypeId} {α : Type} {E : EK P e α} {w : World} {b n : Nat} {f : Int → Option α} {es : Array MapEntry} {clock : Nat} (h1 : w.heap[b]? = some (.map es clock)) (h : Froz E kt es clock n f) : IsM E kt w b n f := by
  obtain ⟨h2, h3, r⟩ := h
  exact ⟨_, ⟨es, clock, h1, h2, h3, rfl⟩, r⟩

/-- A map of the call's own, its entries held fast. -/
def mpz {P : Program} {e : TypeId} {α : Type} (E : EK P e α) (kt : TypeId) (b n : Nat) (f : Int → Option α) (es : Array MapEntry) (clock : Nat) : HP where
  sat w g := (∀ x, g x ↔ x = b) ∧ w.heap[b]? = some (.map es clock) ∧ Froz E kt es clock n f
  loc := fun ⟨h1, h2, h3⟩ hk => ⟨h1, (hk b ((h1 b).2 rfl)).trans h2, h3⟩
  dom := fun ⟨h1, h2, _⟩ x hx => by obtain rfl := (h1 x).1 hx; exact (Array.getElem?_eq_some_iff.1 h2).1

def MAt {P : Program} {e : TypeId} {α : Type} (E : EK P e α) (kt : TypeId) (ok : FP) (w : World) (v : Option Nat) (es : Array MapEntry) (clock n : Nat) (f : Int → Option α) : Prop :=
  (v = none ∧ ∀ k, f k = none) ∨ ∃ b, v = some b ∧ ok b ∧ w.heap[b]? = some (.map es clock) ∧ Froz E kt es clock n f

/-- An iterator over what is held fast. -/
def itr (P : Program) (kt e : TypeId) (v : Option Nat) (r : Nat) (es : Array MapEntry) (clock : Nat) (todo : Int → Bool) (cnt : Nat) : HP where
  sat w g := (∀ x, g x ↔ x = r) ∧ ∃ since seen c0, w.heap[r]? = some (.mapIter v since seen c0) ∧ (v.isSome = true →
    (∀ x ∈ es.toList, x.born < since) ∧ since ≤ c0 ∧ since ≤ clock ∧ (leftOf es seen).size = cnt ∧ ∃ left : Lit → Bool, (∀ k, wfi k → left (.int .i64 k) = todo k) ∧
      (∀ x ∈ es.toList, left (rg P kt (plainElem (H := Unit) P e) x).1 = !seen.contains x.born) ∧ (∀ kl, left kl = true → ∃ x ∈ es.toList, (rg P kt (plainElem (H := Unit) P e) x).1 = kl))
  loc := fun ⟨h1, since, seen, c0, h2, h3⟩ hk => ⟨h1, since, seen, c0, (hk r ((h1 r).2 rfl)).trans h2, h3⟩
  dom := fun ⟨h1, since, seen, c0, h2, h3⟩ x hx => by obtain rfl := (h1 x).1 hx; exact (Array.getElem?_eq_some_iff.1 h2).1

section
variable {P : Program} {n : Nat} {md : Bool} {ops : Array Oper} {rest : List Oper} {f : Fr} {w w0 : World} {Q : Fr → World → Prop} {f0 : FP} {L : List HP}
variable {d : Tmp} {x y z : Operand} {ty t kt e : TypeId} {pos : String} {after : Array Edge} {α : Type} {E : EK P e α} {N : Nat} {F : Int → Option α}

theorem run_range_any (hk : P.underlying kt = some (.int .i64)) (ht : P.underlying t = some (.map kt e)) {b : Nat} {es : Array MapEntry} {clock : Nat} (hb : w.heap[b]? = some (.map es clock)) (hz : Froz E kt es clock N F) :
    ∃ w' g cnt, (Instr.range t (.map (some b))).run P w = .ok (.pointer (some ⟨w.heap.size, 0, none⟩)) w' ∧ (itr P kt e (some b) w.heap.size es clock (fun k => (F k).isSome) cnt).sat w' g ∧ (∀ x, g x ↔ x = w.heap.size) ∧ Step w (fun _ => False) w' ∧ cnt ≤ N := by
  have hown : w.ownsMap P kt (plainElem (H := Unit) P e) b es.size (DataW.map ((es.toList.map (rg P kt (plainElem (H := Unit) P e))).foldr DataW.insert [])) := ⟨es, clock, hb, hz.1, Nat.le_refl _, rfl⟩
  obtain ⟨w', h1, ⟨es', clock', since, seen, c0, q1, q2, q3, q4, q5, q6, q7, q8, q9, q10, q11⟩, h3, h4⟩ := hown.range (int_keyed hk) ht
  have hs := Step.grown h3 (f := fun _ => False) fun b h => by cases h
  have := (hs.keep b hown.lt id).symm.trans q1
  rw [hb] at this
  cases this
  refine ⟨w', fun x => x = w.heap.size, _, h1, ⟨fun _ => Iff.rfl, since, seen, c0, q5, fun _ => ⟨q6, q10, q11, q7, _, fun k hk => (hz.2.2.2.2 k hk).1, q8, q9⟩⟩, fun _ => Iff.rfl, hs, ?_⟩
  rw [← q7]
  exact Nat.le_trans (by unfold leftOf; exact Array.size_filter_le) hz.2.1

theorem o_rangeS {v : Option Nat} (hk : P.underlying kt = some (.int .i64)) (ht : P.underlying t = some (.map kt e)) (H : St w0 f0 L w) (hR : RdM E kt (okOf w0 f0) w0 v N F) (hx : ev f x = .map v)
    (h : ∀ es clock cnt r w', cnt ≤ N → MAt E kt (okOf w0 f0) w0 v es clock N F → St w0 f0 (L ++ [itr P kt e v r es clock (fun k => (F k).isSome) cnt]) w' → wO P ops n false rest Q (up f d (.pointer (some ⟨r, 0, none⟩))) w') (hd : Nat.blt d n = true := by rfl) :
    wO P ops n false (⟨some d, .range t x, ty, pos, after, none⟩ :: rest) Q f w := by
  rcases hR with ⟨rfl, h0⟩ | ⟨b, rfl, hok, hM⟩
  · refine o_val (w' := w.alloc (.mapIter none 0 #[] 0)) (v := .pointer (some ⟨w.heap.size, 0, none⟩)) rfl hd ?_ (h #[] 0 0 w.heap.size _ (Nat.zero_le _) (.inl ⟨rfl, h0⟩) (H.add _ (Step.alloc _ _ _) (g := fun x => x = w.heap.size) ⟨fun _ => Iff.rfl, 0, #[], 0, heap_alloc_new w _, fun h => by cases h⟩ fun b hb => Nat.le_of_eq hb.symm))
    simp [execOp, hx, run_range_nilMap w t kt e ht]
  · obtain ⟨es, clock, hb, hz⟩ := hM.froz
    obtain ⟨w', g, cnt, hrun, hs, hg, hst, hcn⟩ := run_range_any hk ht ((H.ok0 b hok).2.trans hb) hz
    refine o_val (w' := w') (v := .pointer (some ⟨w.heap.size, 0, none⟩)) rfl hd ?_ (h es clock cnt w.heap.size w' hcn (.inr ⟨b, rfl, hok, hb, hz⟩) (H.add _ hst hs fun b hb => Nat.le_of_eq ((hg b).1 hb).symm))
    simp [execOp, hx, hrun]

theorem St.freeze (H : St w0 f0 L w) (i : Nat) {b : Nat} (hi : L[i]? = some (mp E kt b N F)) : ∃ es clock, St w0 f0 (L.set i (mpz E kt b N F es clock)) w := by
  obtain ⟨f1, hA, _, hB⟩ := H.focus i hi
  obtain ⟨es, clock, h1, h2⟩ := hA.2.froz
  exact ⟨es, clock, hB w (mpz E kt b N F es clock) f1 (Step.refl _ _) ⟨hA.1, h1, h2⟩ fun b hb => .inl hb⟩
theorem St.thaw (H : St w0 f0 L w) (i : Nat) {b : Nat} {es : Array MapEntry} {clock : Nat} (hi : L[i]? = some (mpz E kt b N F es clock)) : St w0 f0 (L.set i (mp E kt b N F)) w :=
  H.turn i hi fun _ h => ⟨h.1, IsM.of_froz h.2.1 h.2.2⟩

theorem o_rangeR {b : Nat} {es : Array MapEntry} {clock : Nat} (hk : P.underlying kt = some (.int .i64)) (ht : P.underlying t = some (.map kt e)) (H : St w0 f0 L w) (i : Nat) (hi : L[i]? = some (mpz E kt b N F es clock)) (hx : ev f x = .map (some b))
    (h : ∀ cnt r w', cnt ≤ N → St w0 f0 (L ++ [itr P kt e (some b) r es clock (fun k => (F k).isSome) cnt]) w' → wO P ops n false rest Q (up f d (.pointer (some ⟨r, 0, none⟩))) w') (hd : Nat.blt d n = true := by rfl) :
    wO P ops n false (⟨some d, .range t x, ty, pos, after, none⟩ :: rest) Q f w := by
  obtain ⟨f1, hA, _, _⟩ := H.focus i hi
  obtain ⟨w', g, cnt, hrun, hs, hg, hst, hcn⟩ := run_range_any hk ht hA.2.1 hA.2.2
  refine o_val (w' := w') (v := .pointer (some ⟨w.heap.size, 0, none⟩)) rfl hd ?_ (h cnt w.heap.size w' hcn (H.add _ hst hs fun b hb => Nat.le_of_eq ((hg b).1 hb).symm))
  simp [execOp, hx, hrun]

theorem sameKey_i (a b : Int) : (Lit.int .i64 a).sameKey (.int .i64 b) = (a == b) := by
  by_cases h : a = b
  · subst h; simp [Lit.sameKey]
  · have := Maps.sameKey_ne (lit_ne h)
    rw [this]
    simp [h]

/-- The step over a map that lies where it lies. -/
theorem run_next_any {v : Option Nat} {r : Nat} {es : Array MapEntry} {clock cnt : Nat} {todo : Int → Bool} {g : FP} (hk : P.underlying kt = some (.int .i64)) (hI : (itr P kt e v r es clock todo cnt).sat w g) (hM : MAt E kt (fun _ => True) w v es clock N F) (ty : TypeId) :
    ((∀ k, F k ≠ none → todo k = false) ∧ (Instr.next (.pointer (some ⟨r, 0, none⟩)) false ty).run P w = .ok (.tuple #[.bool false]) w) ∨
    ∃ k x w' cnt', (wfi k ∧ E.good x) ∧ todo k = true ∧ F k = some x ∧ cnt' < cnt ∧ (Instr.next (.pointer (some ⟨r, 0, none⟩)) false ty).run P w = .ok (.tuple #[.bool true, .int .i64 k, E.enc x]) w' ∧
      (itr P kt e v r es clock (fun j => todo j && j != k) cnt').sat w' g ∧ Step w g w' ∧ (Instr.entry (.pointer (some ⟨r, 0, none⟩))).run P w' = .ok (.tuple #[.int .i64 k, E.enc x]) w' := by
  obtain ⟨hg, since, seen, c0, hr, hI⟩ := hI
  rcases hM with ⟨rfl, h0⟩ | ⟨b, rfl, _, hb, hz⟩
  · refine .inl ⟨fun k hk => absurd (h0 k) hk, ?_⟩
    simp only [Instr.next, getObj, Sem.run_bind, Sem.run, hr, Result.andThen]
    rfl
  · obtain ⟨i1, i2, i3, i4, left, i5, i6, i7⟩ := hI rfl
    have hrg : w.ranges P kt (plainElem (H := Unit) P e) b r es.size (DataW.map ((es.toList.map (rg P kt (plainElem (H := Unit) P e))).foldr DataW.insert [])) left cnt :=
      ⟨es, clock, since, seen, c0, hb, hz.1, Nat.le_refl _, rfl, hr, i1, i4, i6, i7, i2, i3⟩
    rcases hrg.next (int_keyed hk) ty with ⟨_, h1, h2⟩ | ⟨key, vv, kl, y, w', cnt', hkey, hlk, hv, hat, hrun, hrg', hlt, hgr, hsz, hen⟩
    · refine .inl ⟨fun k hkk => ?_, h2⟩
      rw [← i5 k (hz.2.2.1 k hkk)]
      exact h1 _
    · obtain ⟨k, rfl, rfl, hkw⟩ := keyOf_int_inv hk hkey
      have hkw := wfi_iff.2 hkw
      obtain ⟨x, hx1, rfl, rfl⟩ := E.inv _ _ hv
      have hF : F k = some x := by
        have h1 := (hz.2.2.2.2 k hkw).2
        cases hFk : F k with
        | none =>
          exfalso
          have a1 := hat (.lit (.bool true))
          have a2 := hat (.lit (.bool false))
          rw [h1, hFk] at a1 a2
          have := a1.trans a2.symm
          cases this
        | some x' =>
          have a1 := hat (.lit (.bool true))
          rw [h1, hFk] at a1
          rw [E.inj _ _ a1]
      have hs : Step w g w' := Step.grown hgr fun b hb => by cases hb; exact (hg _).2 rfl
      have hne : r ≠ b := hrg.ne
      obtain ⟨es', clock', since', seen', c0', q1, q2, q3, q4, q5, q6, q7, q8, q9, q10, q11⟩ := hrg'
      have hbe := (hs.keep b hrg.owns.lt fun h => hne ((hg b).1 h).symm).symm.trans q1
      rw [hb] at hbe
      cases hbe
      refine .inr ⟨k, x, w', cnt', ⟨hkw, hx1⟩, by rw [← i5 k hkw]; exact hlk, hF, hlt, hrun, ⟨hg, since', seen', c0', q5, fun _ => ⟨q6, q10, q11, q7, _, fun j hj => ?_, q8, q9⟩⟩, hs, hen⟩
      show (left (.int .i64 j) && !(Lit.int .i64 j).sameKey (.int .i64 k)) = _
      rw [i5 j hj, sameKey_i]; rfl

theorem o_nextS {v : Option Nat} {r : Nat} {es : Array MapEntry} {clock cnt : Nat} {todo : Int → Bool} (hk : P.underlying kt = some (.int .i64)) (H : St w0 f0 L w) (i : Nat) (hi : L[i]? = some (itr P kt e v r es clock todo cnt)) (hM : MAt E kt (okOf w0 f0) w0 v es clock N F) (hx : ev f x = .pointer (some ⟨r, 0, none⟩))
    (h0 : (∀ k, F k ≠ none → todo k = false) → wO P ops n false rest Q (up f d (.tuple #[.bool false])) w)
    (h1 : ∀ k x w' cnt', wfi k ∧ E.good x → todo k = true → F k = some x → cnt' < cnt → St w0 f0 (L.set i (itr P kt e v r es clock (fun j => todo j && j != k) cnt')) w' → (Instr.entry (.pointer (some ⟨r, 0, none⟩))).run P w' = .ok (.tuple #[.int .i64 k, E.enc x]) w' → wO P ops n false rest Q (up f d (.tuple #[.bool true, .int .i64 k, E.enc x])) w')
    (hd : Nat.blt d n = true := by rfl) : wO P ops n false (⟨some d, .next x false, ty, pos, after, none⟩ :: rest) Q f w := by
  obtain ⟨f1, hA, _, hB⟩ := H.focus i hi
  have hM' : MAt E kt (fun _ => True) w v es clock N F := hM.imp id fun ⟨b, e1, h2, h3, h4⟩ => ⟨b, e1, trivial, (H.ok0 b h2).2.trans h3, h4⟩
  rcases run_next_any hk hA hM' ty with ⟨a1, a2⟩ | ⟨k, x', w', cnt', b1, b2, b3, b4, b5, b6, b7, b8⟩
  · refine o_val (w' := w) (v := .tuple #[.bool false]) rfl hd ?_ (h0 a1)
    simp [execOp, hx, a2]
  · refine o_val (w' := w') (v := .tuple #[.bool true, .int .i64 k, E.enc x']) rfl hd ?_ (h1 k x' w' cnt' b1 b2 b3 b4 (hB w' _ f1 b7 b6 fun b hb => .inl hb) b8)
    simp [execOp, hx, b5]

theorem o_nextR {b r : Nat} {es : Array MapEntry} {clock cnt : Nat} {todo : Int → Bool} (hk : P.underlying kt = some (.int .i64)) (H : St w0 f0 L w) (i j : Nat) (hi : L[i]? = some (itr P kt e (some b) r es clock todo cnt)) (hj : L[j]? = some (mpz E kt b N F es clock)) (hx : ev f x = .pointer (some ⟨r, 0, none⟩))
    (h0 : (∀ k, F k ≠ none → todo k = false) → wO P ops n false rest Q (up f d (.tuple #[.bool false])) w)
    (h1 : ∀ k x w' cnt', wfi k ∧ E.good x → todo k = true → F k = some x → cnt' < cnt → St w0 f0 (L.set i (itr P kt e (some b) r es clock (fun j => todo j && j != k) cnt')) w' → (Instr.entry (.pointer (some ⟨r, 0, none⟩))).run P w' = .ok (.tuple #[.int .i64 k, E.enc x]) w' → wO P ops n false rest Q (up f d (.tuple #[.bool true, .int .i64 k, E.enc x])) w')
    (hd : Nat.blt d n = true := by rfl) : wO P ops n false (⟨some d, .next x false, ty, pos, after, none⟩ :: rest) Q f w := by
  obtain ⟨f1, hA, _, hB⟩ := H.focus i hi
  obtain ⟨f2, hZ, _, _⟩ := H.focus j hj
  have hM' : MAt E kt (fun _ => True) w (some b) es clock N F := .inr ⟨b, rfl, trivial, hZ.2.1, hZ.2.2⟩
  rcases run_next_any hk hA hM' ty with ⟨a1, a2⟩ | ⟨k, x', w', cnt', b1, b2, b3, b4, b5, b6, b7, b8⟩
  · refine o_val (w' := w) (v := .tuple #[.bool false]) rfl hd ?_ (h0 a1)
    simp [execOp, hx, a2]
  · refine o_val (w' := w') (v := .tuple #[.bool true, .int .i64 k, E.enc x']) rfl hd ?_ (h1 k x' w' cnt' b1 b2 b3 b4 (hB w' _ f1 b7 b6 fun b hb => .inl hb) b8)
    simp [execOp, hx, b5]

theorem o_entry {a : Addr} {v : Value} (hx : ev f x = .pointer (some a)) (he : (Instr.entry (.pointer (some a))).run P w = .ok v w) (h : wO P ops n md rest Q (up f d v) w) (hd : Nat.blt d n = true := by rfl) :
    wO P ops n md (⟨some d, .entry x, ty, pos, after, none⟩ :: rest) Q f w := by
  refine o_pure (v := v) rfl hd ?_ h
  simp [execOp, hx, he]
end
end
section
open Go Go.RowKit

theorem okOf_step {w w' : World} (h : Step w (fun _ => False) w') : ∀ b, okOf w (fun _ => False) b → okOf w' (fun _ => False) b ∧ w'.heap[b]? = w.heap[b]? :=
  fun b hb => ⟨⟨Nat.lt_of_lt_of_le hb.1 h.size, id⟩, h.keep b hb.1 id⟩
theorem St.cells {w0 w : World} {f0 : FP} {L : List HP} (H : St w0 f0 L w) (i : Nat) {b : Nat} {t : TypeId} {cs : List Value} (hi : L[i]? = some (blk b t cs)) : Cells (okOf w fun _ => False) w ⟨b, 0, none⟩ cs := by
  obtain ⟨f1, hA, _, _⟩ := H.focus i hi
  exact ⟨⟨(blk b t cs).dom hA b ((hA.1 b).2 rfl), id⟩, fun j v hj => by rw [add_spot rfl]; exact (blk.cell hA (0 + j)).trans (by rw [Nat.zero_add]; exact hj)⟩
theorem St.rdR {w0 w : World} {f0 : FP} {L : List HP} (H : St w0 f0 L w) (i : Nat) {A : Option Addr} {n c : Nat} {e : TypeId} {sz : Nat} {cs : List Value} (hi : L[i]? = some (row A n c e sz cs)) : RdS (okOf w fun _ => False) w A n c sz cs := by
  obtain ⟨f1, hA, _, _⟩ := H.focus i hi
  exact row.rd hA fun b hb => ⟨(row A n c e sz cs).dom hA b hb, id⟩
theorem St.rdM {w0 w : World} {f0 : FP} {L : List HP} (H : St w0 f0 L w) (i : Nat) {P : Program} {e kt : TypeId} {α : Type} {E : EK P e α} {b n : Nat} {F : Int → Option α} (hi : L[i]? = some (mp E kt b n F)) : RdM E kt (okOf w fun _ => False) w (some b) n F := by
  obtain ⟨f1, hA, _, _⟩ := H.focus i hi
  exact .inr ⟨b, rfl, ⟨hA.2.lt, id⟩, hA.2⟩

theorem St.goodM {w0 w : World} {f0 : FP} {L : List HP} (H : St w0 f0 L w) (i : Nat) {P : Program} {e kt : TypeId} {α : Type} {E : EK P e α} {b n : Nat} {F : Int → Option α} (hi : L[i]? = some (mp E kt b n F)) (k : Int) : E.good ((F k).getD E.zero) := by
  obtain ⟨f1, ⟨_, D, _, _, hg, _⟩, _⟩ := H.focus i hi
  cases h : F k with
  | none => exact E.gz
  | some x => exact hg k x h

section
variable {P : Program} {n : Nat} {md : Bool} {ops : Array Oper} {rest : List Oper} {f : Fr} {w w0 : World} {Q : Fr → World → Prop} {f0 : FP} {L : List HP}
variable {d : Tmp} {x y z u : Operand} {ty t : TypeId} {pos : String} {after : Array Edge}
variable {A : Option Addr} {l c sz bytes : Nat} {e : TypeId} {zv : Value} {cs : List Value}

theorem o_build {l : List (Nat × Operand)} {pv : List (Nat × Value)} {cells : List Value} (hv : l.map (fun p => (p.1, ev f p.2)) = pv) (hb : P.built t pv = some cells.toArray) (h : wO P ops n md rest Q (up f d (.agg cells.toArray)) w) (hd : Nat.blt d n = true := by rfl) :
    wO P ops n md (⟨some d, .build t l.toArray, ty, pos, after, none⟩ :: rest) Q f w := by
  refine o_pure (v := .agg cells.toArray) rfl hd ?_ h
  have hpa : (l.toArray.map fun (i, x) => (i, ev f x)).toList = pv := by rw [← hv]; simp
  have := run_build (P := P) w t (l.toArray.map fun (i, x) => (i, ev f x)) cells.toArray (by rw [hpa]; exact hb)
  simp only [execOp, Sem.run_bind]
  rw [this]; rfl

theorem o_neqA {xs ys : List Value} {yt : TypeId} (r : Bool) (hg : P.eqGuardType P.depth t = false) (hx : ev f x = .agg xs.toArray) (hy : ev f y = .agg ys.toArray) (hr : ∀ w, (Op.equalIn 10000 t (.agg xs.toArray) (.agg ys.toArray)).run P w = .ok r w)
    (h : wO P ops n md rest Q (up f d (.bool (!r))) w) (hd : Nat.blt d n = true := by rfl) : wO P ops n md (⟨some d, .binOp .neq t x y yt, ty, pos, after, none⟩ :: rest) Q f w := by
  refine o_pure (v := .bool (!r)) rfl hd ?_ h
  show (Sem.run P (do pure (Next.value (← (do eqGuard .neq t x y (ev f x) (ev f y); binOp .neq t (ev f x) (ev f y))))) w) = _
  rw [hx, hy]
  simp only [Sem.run_bind, run_eqGuard_agg w .neq t x y xs.toArray ys.toArray hg, run_neq_struct, Result.andThen_ok, hr]
  rfl
theorem o_eqlA {xs ys : List Value} {yt : TypeId} (r : Bool) (hg : P.eqGuardType P.depth t = false) (hx : ev f x = .agg xs.toArray) (hy : ev f y = .agg ys.toArray) (hr : ∀ w, (Op.equalIn 10000 t (.agg xs.toArray) (.agg ys.toArray)).run P w = .ok r w)
    (h : wO P ops n md rest Q (up f d (.bool r)) w) (hd : Nat.blt d n = true := by rfl) : wO P ops n md (⟨some d, .binOp .eql t x y yt, ty, pos, after, none⟩ :: rest) Q f w := by
  refine o_pure (v := .bool r) rfl hd ?_ h
  show (Sem.run P (do pure (Next.value (← (do eqGuard .eql t x y (ev f x) (ev f y); binOp .eql t (ev f x) (ev f y))))) w) = _
  rw [hx, hy]
  simp only [Sem.run_bind, run_eqGuard_agg w .eql t x y xs.toArray ys.toArray hg, run_eql_struct, Result.andThen_ok, hr]
  rfl

/-- One cell of a struct's value. -/
theorem part1 (hT : T1 P t) {cs : Array Value} {o : Nat} {v : Value} (hv : cs[o]? = some v) (w : World) : (part t cs o).run P w = .ok v w := by
  simp [part, hT.ag, hv]

theorem o_mul {k : IntKind} {a b : Int} {yt : TypeId} (hx : ev f x = .int k a) (hy : ev f y = .int k b) (h : wO P ops n md rest Q (up f d (.int k (k.wrap (a * b)))) w) (hd : Nat.blt d n = true := by rfl) :
    wO P ops n md (⟨some d, .binOp .mul t x y yt, ty, pos, after, none⟩ :: rest) Q f w := o_bin hx hy (by cases k <;> rfl) h hd
theorem o_mul64 {a b : Int} {yt : TypeId} (hx : ev f x = .int .i64 a) (hy : ev f y = .int .i64 b) (hr : -9223372036854775808 ≤ a * b ∧ a * b ≤ 9223372036854775807) (h : wO P ops n md rest Q (up f d (.int .i64 (a * b))) w) (hd : Nat.blt d n = true := by rfl) :
    wO P ops n md (⟨some d, .binOp .mul t x y yt, ty, pos, after, none⟩ :: rest) Q f w := o_mul hx hy (by rw [i64_in _ hr]; exact h) hd
theorem o_rem {k : IntKind} {a b : Int} {yt : TypeId} (hx : ev f x = .int k a) (hy : ev f y = .int k b) (hb : b ≠ 0) (h : wO P ops n md rest Q (up f d (.int k (a.tmod b))) w) (hd : Nat.blt d n = true := by rfl) :
    wO P ops n md (⟨some d, .binOp .rem t x y yt, ty, pos, after, none⟩ :: rest) Q f w := o_bin hx hy (by simp [binOp, Op.intDiv, hb]) h hd
theorem o_quo {k : IntKind} {a b : Int} {yt : TypeId} (hx : ev f x = .int k a) (hy : ev f y = .int k b) (hb : b ≠ 0) (h : wO P ops n md rest Q (up f d (.int k (k.wrap (a.tdiv b)))) w) (hd : Nat.blt d n = true := by rfl) :
    wO P ops n md (⟨some d, .binOp .quo t x y yt, ty, pos, after, none⟩ :: rest) Q f w := o_bin hx hy (by simp [binOp, Op.intDiv, hb]) h hd
theorem o_and {k : IntKind} {a b : Int} {yt : TypeId} (hx : ev f x = .int k a) (hy : ev f y = .int k b) (h : wO P ops n md rest Q (up f d (.int k (k.wrap (BitVec.ofInt k.bits a &&& BitVec.ofInt k.bits b).toNat))) w) (hd : Nat.blt d n = true := by rfl) :
    wO P ops n md (⟨some d, .binOp .and t x y yt, ty, pos, after, none⟩ :: rest) Q f w := o_bin hx hy (by simp [binOp, Op.intBits]) h hd

theorem o_lenM {b N : Nat} {α : Type} {kt e : TypeId} {E : EK P e α} {F : Int → Option α} (ht : P.underlying t = some (.map kt e)) (H : St w0 f0 L w) (i : Nat) {es : Array MapEntry} {clock : Nat} (hi : L[i]? = some (mpz E kt b N F es clock)) (hx : ev f x = .map (some b)) (h : wO P ops n md rest Q (up f d (.int .i64 es.size)) w) (hd : Nat.blt d n = true := by rfl) :
    wO P ops n md (⟨some d, .call { callee := .builtin .len, args := #[x], argTypes := #[t] }, ty, pos, after, none⟩ :: rest) Q f w := by
  obtain ⟨f1, hA, _, _⟩ := H.focus i hi
  refine o_pure (v := .int .i64 es.size) rfl hd ?_ h
  simp [execOp, resolve, invoke, builtin, hx, Builtin.len_, run_underlying ht, goInt, Result.andThen, getObj, hA.2.1, Sem.run]

theorem o_cutLH (ht : P.underlying t = some (.slice e)) (hI : TI P e zv sz bytes) {k k' : IntKind} {i j : Int} (hx : ev f x = .slice A l c) (hy : ev f y = .int k i) (hz : ev f z = .int k' j) (h0 : 0 ≤ i) (h1 : i ≤ j) (h2 : j ≤ c)
    (h : wO P ops n md rest Q (up f d (.slice (if c = i.toNat then A else A.map (·.add (i.toNat * sz))) (j.toNat - i.toNat) (c - i.toNat))) w) (hd : Nat.blt d n = true := by rfl) : wO P ops n md (⟨some d, .slice t x (some y) (some z) none, ty, pos, after, none⟩ :: rest) Q f w := by
  refine o_pure rfl hd ?_ h
  have h3 : 0 ≤ j := by omega
  have h4 : i ≤ (j.toNat : Int) := by omega
  simp [execOp, hx, hy, hz, Instr.sliceAt, run_underlying ht, Instr.slice, Instr.sliceBounds, Instr.sliceBound, asIntOf, h0, h1, h2, h3, hI.size]
  intro hh; omega
theorem o_cut3 (ht : P.underlying t = some (.slice e)) (hI : TI P e zv sz bytes) {k k' k2 : IntKind} {i j m : Int} (hx : ev f x = .slice A l c) (hy : ev f y = .int k i) (hz : ev f z = .int k' j) (hu : ev f u = .int k2 m) (h0 : 0 ≤ i) (h1 : i ≤ j) (h2 : j ≤ m) (h2' : m ≤ c)
    (h : wO P ops n md rest Q (up f d (.slice (if m.toNat = i.toNat then A else A.map (·.add (i.toNat * sz))) (j.toNat - i.toNat) (m.toNat - i.toNat))) w) (hd : Nat.blt d n = true := by rfl) : wO P ops n md (⟨some d, .slice t x (some y) (some z) (some u), ty, pos, after, none⟩ :: rest) Q f w := by
  refine o_pure rfl hd ?_ h
  have h3 : 0 ≤ j := by omega
  have h4 : 0 ≤ m := by omega
  have h5 : j ≤ max m 0 := by omega
  have h6 : i ≤ max j 0 := by omega
  simp [execOp, hx, hy, hz, hu, Instr.sliceAt, run_underlying ht, Instr.slice, Instr.sliceBounds, Instr.sliceBound, asIntOf, h0, h1, h2, h2', h3, h4, h5, h6, hI.size]

/-- append(s[:i], s[j:]...): where the row lies. -/
theorem o_appIn (ht : P.underlying t = some (.slice e)) (hI : TI P e zv sz bytes) (H : St w0 f0 L w) (k : Nat) {a : Addr} (hk : L[k]? = some (row (some a) l c e sz cs)) (i j : Nat) (hij : i ≤ j) (hj : j ≤ l) (h1 : ∀ u ∈ cs, u.oneCell' = true)
    (hx : ev f x = .slice (some a) i c) (hy : ev f y = .slice (if c = j then some a else some (a.add (j * sz))) (l - j) (c - j))
    (h : ∀ w', St w0 f0 (L.set k (row (some a) l c e sz (lay cs (i * sz) (cs.drop (j * sz))))) w' → wO P ops n false rest Q (up f d (.slice (some a) (i + (l - j)) c)) w') (hd : Nat.blt d n = true := by rfl) :
    wO P ops n false (⟨some d, .call { callee := .builtin .append, args := #[x, y], argTypes := #[t, t] }, ty, pos, after, none⟩ :: rest) Q f w := by
  obtain ⟨f1, hA, _, hB⟩ := H.focus k hk
  have hA2 := row.cutL hA j hj
  have hlc := row.len hA
  have hs : Src P sz t (.slice (if c = j then some a else some (a.add (j * sz))) (l - j) (c - j)) (l - j) (cs.drop (j * sz)) w := by
    have := Src.row ht hA2 fun u hu => h1 u (List.mem_of_mem_drop hu)
    by_cases hcj : c = j
    · rw [if_pos hcj] at this ⊢; exact this
    · rw [if_neg hcj] at this ⊢; exact this
  have hfit : i * sz + (cs.drop (j * sz)).length ≤ cs.length := by
    have e1 : i * sz ≤ j * sz := Nat.mul_le_mul_right _ hij
    have e2 : j * sz ≤ l * sz := Nat.mul_le_mul_right _ hj
    rw [List.length_drop, hlc.1]; omega
  obtain ⟨w', hrun, hs', hst⟩ := row.put (P := P) hA (i * sz) (cs.drop (j * sz)) hfit fun u hu => h1 u (List.mem_of_mem_drop hu)
  have hroom : i + (l - j) ≤ c := by omega
  refine o_val (w' := w') (v := .slice (some a) (i + (l - j)) c) rfl hd ?_ (h w' (hB w' _ f1 hst hs' fun b hb => .inl hb))
  simp only [execOp, resolve, invoke, builtin, hx, hy]
  have hI2 := hI.size
  rcases hs.kind with ⟨e', hk⟩ | hk
  · simp [Builtin.append_, run_underlying ht, run_underlying hk, hI2, hs.len, hroom, hs.cells, hx, hy, hrun]
  · rw [ht] at hk; cases hk

/-- clear of a view. -/
theorem o_clearR {dd : Option Tmp} (ht : P.underlying t = some (.slice e)) (hI : TI P e zv sz bytes) (H : St w0 f0 L w) (k : Nat) {a : Addr} (hk : L[k]? = some (row (some a) l c e sz cs)) (i m : Nat) {mc : Nat} {V : Option Addr} (him : i + m ≤ l)
    (hx : ev f x = .slice V m mc) (hV : m = 0 ∨ V = some (a.add (i * sz))) (h1 : ∀ u ∈ zv.cells.toList, u.oneCell' = true)
    (h : ∀ w', St w0 f0 (L.set k (row (some a) l c e sz (lay cs (i * sz) (List.replicate m zv.cells.toList).flatten))) w' → wO P ops n false rest Q (upO f dd (.tuple #[])) w') (hd : dOk n dd = true := by rfl) :
    wO P ops n false (⟨dd, .call { callee := .builtin .clear, args := #[x], argTypes := #[t] }, ty, pos, after, none⟩ :: rest) Q f w := by
  obtain ⟨f1, hA, _, hB⟩ := H.focus k hk
  by_cases hm : m = 0
  · subst hm
    refine o_val (w' := w) (v := .tuple #[]) rfl hd ?_ (h w (hB w _ f1 (Step.refl _ _) ?_ fun b hb => .inl hb))
    · cases V <;> simp [execOp, resolve, invoke, builtin, hx, Builtin.clear_, run_underlying ht]
    · have : lay cs (i * sz) (List.replicate 0 zv.cells.toList).flatten = cs := by simp [lay]
      rw [this]; exact hA
  · obtain rfl := hV.resolve_left hm
    have hzl : (List.replicate m zv.cells.toList).flatten.length = m * sz := by simp [hI.zs]
    have hlc := row.len hA
    obtain ⟨w', hrun, hs', hst⟩ := row.put (P := P) hA (i * sz) (List.replicate m zv.cells.toList).flatten (by rw [hzl, hlc.1, ← Nat.add_mul]; exact Nat.mul_le_mul_right _ him) (by
      intro u hu
      obtain ⟨l', hl', hu'⟩ := List.mem_flatten.1 hu
      obtain rfl := List.eq_of_mem_replicate hl'
      exact h1 u hu')
    refine o_val (w' := w') (v := .tuple #[]) rfl hd ?_ (h w' (hB w' _ f1 hst hs' fun b hb => .inl hb))
    have hz : (Builtin.zeroCells zv.cells m).toList = (List.replicate m zv.cells.toList).flatten := (made_flat zv.cells m)
    obtain ⟨m', rfl⟩ : ∃ m', m = m' + 1 := ⟨m - 1, by omega⟩
    simp [execOp, resolve, invoke, builtin, hx, Builtin.clear_, run_underlying ht, hI.zero, hz, hrun]
end
end
section
open Go Go.RowKit

section
variable {P : Program} {ops : Array Oper} {md : Region.Mode}

def wpJ (P : Program) (md : Region.Mode) (ops : Array Oper) (J : World → Prop) (n : Nat) (Q : Exit → Act → World → Prop) : Nat → Array Bool → Act → World → Prop
  | 0, listed, a, w => Region.ready md ops listed = [] ∧ Q .normal a w
  | fuel + 1, listed, a, w =>
    (Region.ready md ops listed = [] → Q .normal a w) ∧
    ∀ i ∈ Region.ready md ops listed, wpOp P ops Q i (fun a' w' => (i < n → J w') ∧ wpJ P md ops J n Q fuel (listed.setIfInBounds i true) a' w') a w

theorem wpAny_of_J {J : World → Prop} {n : Nat} {Q : Exit → Act → World → Prop} : ∀ (fuel : Nat) (listed : Array Bool) (a : Act) (w : World), wpJ P md ops J n Q fuel listed a w → wpAny P md ops Q fuel listed a w
  | 0, _, _, _, h => h
  | fuel + 1, listed, a, w, h => ⟨h.1, fun i hi => wpOp_mono (fun a' w' h' => wpAny_of_J fuel _ a' w' h'.2) (h.2 i hi)⟩

theorem wpOp_put' {Q : Exit → Act → World → Prop} {j : Nat} {oi oj : Oper} {v : Value} (hj : ops[j]? = some oj) (hap : oi.apart ops oj = true)
    (hsj : ∀ cs b, oj.op ≠ .select cs b) (hQ : ∀ c a w, Q (.panic c) (a.put oi.dst v) w → Q (.panic c) a w) {Y : Act → Prop} (keep : ∀ a, Y a → ∀ u, Y (a.put oj.dst u)) (keepD : ∀ (a : Act) d, Y a → Y { a with defers := d :: a.defers })
    {K : Act → World → Prop} {a : Act} {w : World} (hy : Y a) (h : wpOp P ops Q j K (a.put oi.dst v) w) :
    wpOp P ops Q j (fun a' w' => Y a' ∧ K (a'.put oi.dst v) w') a w := by
  obtain ⟨h1, h2, h3⟩ := Oper.apart_spec hap
  unfold wpOp at *
  simp only [hj] at *
  rw [wanted_put oj a oi.dst v h1] at h
  split
  · rename_i hw
    simp only [hw, if_true] at h
    rcases h with h | ⟨hasks, hlets⟩
    case inr => exact .inr ⟨by unfold Oper.asks at *; rw [execOp_put oj hsj a oi.dst v h1] at hasks; exact hasks, hlets⟩
    refine .inl ?_
    unfold Oper.wp at *
    rw [execOp_put oj hsj a oi.dst v h1] at h
    generalize (execOp a.eval oj).run P w = r at *
    cases r with
    | ok n w' =>
      cases n <;> simp only [Oper.upon] at h ⊢
      case value u => exact ⟨keep a hy u, by rw [← Act.put_comm a v u h2]; exact h⟩
      case skip => exact ⟨keep a hy _, by rw [← Act.put_comm a v undef h2]; exact h⟩
      case defer d =>
        refine ⟨keep _ (keepD _ d hy) _, ?_⟩
        rw [← Act.put_comm _ v undef h2, ← Act.put_defers]
        exact h
      case enter f args =>
        refine Calls.mono h fun e w'' he => ?_
        cases e with
        | returned u => exact ⟨keep a hy u, by rw [← Act.put_comm a v u h2]; exact he⟩
        | panicked c => exact hQ _ _ _ he
        | outgrown => exact he
      case row row args => exact Rows.mono h fun u w'' he => ⟨keep a hy u, by rw [← Act.put_comm a v u h2]; exact he⟩
    | halt x w' =>
      cases x <;> simp only [Oper.upon] at h ⊢
      case panic u => exact hQ _ _ _ h
  · rename_i hw
    simp only [hw] at h
    exact ⟨keep a hy _, by rw [← Act.put_comm a v undef h2]; exact h⟩

/-- The same value in all worlds of J; for calls, too. -/
def YJ (P : Program) (ops : Array Oper) (J : World → Prop) (o : Oper) (v : Value) (a : Act) : Prop := ∀ w, J w → YieldsAt P ops w o v a

theorem YieldsAt.wpOp' {Q : Exit → Act → World → Prop} {i : Nat} {o : Oper} {v : Value} {a : Act} {w : World} (hi : ops[i]? = some o) (hy : YieldsAt P ops w o v a) {K : Act → World → Prop} (h : K (a.put o.dst v) w) : wpOp P ops Q i K a w :=
  wpOp_of_stOp (K := fun a' => K a' w) (fun _ h => h) (hy.stOp hi h)

theorem wpJ_first {J : World → Prop} {n i : Nat} {oi : Oper} {v : Value} {Q : Exit → Act → World → Prop} (hi : ops[i]? = some oi) (hsel : ∀ (j : Nat) (o : Oper) cs b, ops[j]? = some o → o.op ≠ .select cs b)
    (hs : Region.sinkB md ops n = true) (hc : Region.chainB md ops n = true) (hn : n < ops.size) (hin : i < n) (hQ : ∀ c a w, Q (.panic c) (a.put oi.dst v) w → Q (.panic c) a w) :
    ∀ (f : Nat) (listed : Array Bool) (a : Act) (w : World), HeadInv md ops n listed →
      (∀ j oj, ops[j]? = some oj → j ≠ i → listed.getD j true = false → (∀ e ∈ oj.after, Region.binds md e = true → e.on ≠ i) → oi.apart ops oj = true) →
      i ∈ Region.ready md ops listed → YJ P ops J oi v a → J w →
      wpJ P md ops J n Q f (listed.setIfInBounds i true) (a.put oi.dst v) w → wpJ P md ops J n Q (f + 1) listed a w := by
  intro f
  induction f with
  | zero =>
    intro listed a w inv _ hr hy hJ H
    refine ⟨fun h => (by rw [h] at hr; cases hr), fun j hj => ?_⟩
    by_cases hji : j = i
    · subst hji; exact YieldsAt.wpOp' hi (hy w hJ) ⟨fun _ => hJ, H⟩
    · have := ready_mono hj hji
      rw [H.1] at this
      cases this
  | succ f ih =>
    intro listed a w inv hfree hr hy hJ H
    have hun := (mem_ready.1 hr).1
    refine ⟨fun h => (by rw [h] at hr; cases hr), fun j hj => ?_⟩
    have hjn : j < n := by
      rcases Nat.lt_or_ge j n with h | h
      · exact h
      · exact absurd hj (tail_waits hs hc hn inv _ i rfl hin hun j h)
    by_cases hji : j = i
    · subst hji; exact YieldsAt.wpOp' hi (hy w hJ) ⟨fun _ => hJ, H⟩
    · have h1 := H.2 j (ready_mono hj hji)
      obtain ⟨hjun, oj, hoj, hall⟩ := mem_ready.1 hj
      have hnot : ∀ e ∈ oj.after, Region.binds md e = true → e.on ≠ i := fun e he hb heq => by
        have h1 := hall e he hb
        rw [heq, getD_both hun] at h1
        cases h1
      have hap := hfree j oj hoj hji hjun hnot
      obtain ⟨_, _, h3⟩ := Oper.apart_spec hap
      have h2 := wpOp_put' hoj hap (fun cs b => hsel j oj cs b hoj) hQ
        (fun a hy u w' hw' => (hy w' hw').of_same (execOp_put oi (fun cs b => hsel i oi cs b hi) a oj.dst u h3) (wanted_put oi a oj.dst u h3)) (fun a d hy w' hw' => (hy w' hw').of_same rfl rfl) hy h1
      have hfree' : ∀ k ok, ops[k]? = some ok → k ≠ i → (listed.setIfInBounds j true).getD k true = false →
          (∀ e ∈ ok.after, Region.binds md e = true → e.on ≠ i) → oi.apart ops ok = true := fun k ok hk hki hun hno => by
        refine hfree k ok hk hki ?_ hno
        by_cases hjk : j = k
        · subst hjk; exact hjun
        · rw [getD_set_ne true hjk] at hun; exact hun
      refine wpOp_mono (fun a' w' h3 => ⟨h3.2.1, ih (listed.setIfInBounds j true) a' w' (inv.set hj hjn) hfree' (ready_mono hr (Ne.symm hji)) h3.1 (h3.2.1 hjn) ?_⟩) h2
      rw [Array.setIfInBounds_comm _ _ hji]
      exact h3.2.2

def seqAt (md : Region.Mode) (ops : Array Oper) : List Nat → Array Bool → Bool
  | [], listed => (Region.ready md ops listed).isEmpty
  | k :: s, listed => decide (Region.ready md ops listed = [k]) && seqAt md ops s (listed.setIfInBounds k true)
def headAt (md : Region.Mode) (ops : Array Oper) (n : Nat) (s : List Nat) : List Nat → Array Bool → Bool
  | [], listed => seqAt md ops s listed
  | k :: rs, listed => (Region.ready md ops listed).contains k && Region.free md ops listed k && Nat.blt k n && headAt md ops n s rs (listed.setIfInBounds k true)
def opsAt (l : List Oper) (rs : List Nat) : List Oper := rs.filterMap (l[·]?)
def dstsB (n : Nat) : List Oper → Bool
  | [] => true
  | o :: l => (match o.dst with | some d => Nat.blt d n && l.all fun o' => o'.dst != some d | none => false) && dstsB n l
def mixB (md : Region.Mode) (m : Nat) (l : List Oper) (n : Nat) (rs cs : List Nat) : Bool :=
  Region.noSelect l.toArray && Nat.blt n l.length && Region.sinkB md l.toArray n && Region.chainB md l.toArray n && (cs.all fun k => Nat.blt k n) && dstsB m (opsAt l rs) && Nat.beq (rs.length + cs.length) n &&
    headAt md l.toArray n (cs ++ (List.range (l.length - n)).map (n + ·)) rs (Array.replicate l.toArray.size false)

end

section
variable {P : Program} {n : Nat} {w : World} {f : Fr}

theorem wO_run {ops : Array Oper} {l : List Oper} {Q : Fr → World → Prop} (h : wO P ops n false l Q f w) {a : Act} (hs : Sm n a f) : wpList P ops (fun e a' w' => e = .normal ∧ ∃ f', Sm n a' f' ∧ Q f' w') l a w := by
  unfold wO at h
  exact h a hs
theorem wO_still {ops : Array Oper} {l : List Oper} {Q : Fr → World → Prop} (h : wO P ops n true l Q f w) {a : Act} (hs : Sm n a f) : wpStill P ops w (fun a' => ∃ f', Sm n a' f' ∧ Q f' w) l a := by
  unfold wO at h
  exact h a hs

/-- What lays and writes, one by one; J holds all the while. -/
def wJ (P : Program) (ops : Array Oper) (n : Nat) (J : World → Prop) : List Oper → (Fr → World → Prop) → Fr → World → Prop
  | [], Q, f, w => Q f w
  | o :: l, Q, f, w => wO P ops n false [o] (fun f' w' => J w' ∧ wJ P ops n J l Q f' w') f w

theorem put_other {a : Act} {d d' : Option Nat} {v : Value} {i : Nat} (h : ∀ x, d = some x → x ≠ i) : (a.put d v).tmps[i]? = a.tmps[i]? := by
  cases d with
  | none => rfl
  | some x =>
    show (a.tmps.setIfInBounds x v)[i]? = _
    rw [Array.getElem?_setIfInBounds_ne (h x rfl)]

theorem still_keep {ops : Array Oper} {F : Fr} {i : Nat} (hi : i < n) : ∀ (l : List Oper) (a : Act), (∀ o ∈ l, o.dst ≠ some i) → wpStill P ops w (fun a' => Sm n a' F) l a → a.tmps[i]? = some (F i)
  | [], a, _, h => Sm.at_ h i hi
  | o :: l, a, hd, h => by
    unfold wpStill at h
    have hne : ∀ x, o.dst = some x → x ≠ i := fun x hx e => hd o (by simp) (by rw [hx, e])
    have next : ∀ v, wpStill P ops w (fun a' => Sm n a' F) l (a.put o.dst v) → a.tmps[i]? = some (F i) := fun v h' => by
      have := still_keep hi l _ (fun o' ho' => hd o' (by simp [ho'])) h'
      rwa [put_other (d' := none) hne] at this
    split at h
    · unfold Oper.still at h
      generalize (execOp a.eval o).run P w = r at h
      cases r with
      | ok x w' =>
        cases x <;> simp only [Oper.stillUpon] at h
        case value u => exact next _ h.2
        case skip => exact next _ h.2
        case enter f args => obtain ⟨_, v, _, hn⟩ := h; exact next _ hn
      | halt x w' => simp only [Oper.stillUpon] at h
    · exact next _ h

theorem wpJ_of_seq {J : World → Prop} {N : Nat} {md : Region.Mode} {l : List Oper} {Q : Exit → Act → World → Prop} {Qf : Fr → World → Prop} (hq : ∀ f a w, Sm n a f → Qf f w → Q .normal a w) (hp : ∀ e a w, e ≠ .normal → ¬ Q e a w) :
    ∀ (cs ts : List Nat) (listed : Array Bool) (f : Fr) (a : Act) (w : World), (∀ k ∈ cs, k < l.length) → (∀ k ∈ ts, N ≤ k ∧ k < l.length) → Sm n a f → seqAt md l.toArray (cs ++ ts) listed = true →
      wJ P l.toArray n J (opsAt l cs) (fun f' w' => wO P l.toArray n false (opsAt l ts) Qf f' w') f w → wpJ P md l.toArray J N Q (cs.length + ts.length) listed a w
  | [], [], listed, f, a, w, _, _, hs, hB, h => by
    refine ⟨by simpa [seqAt] using hB, ?_⟩
    have h := h
    simp only [opsAt, List.filterMap_nil, wJ] at h
    have := wO_run h hs
    obtain ⟨_, f', hf', q⟩ := this
    exact hq f' a w hf' q
  | [], k :: ts, listed, f, a, w, hc, ht, hs, hB, h => by
    simp only [List.nil_append, seqAt, Bool.and_eq_true, decide_eq_true_eq] at hB
    simp only [List.length_nil, Nat.zero_add, List.length_cons]
    refine ⟨fun h1 => (by rw [hB.1] at h1; cases h1), fun i hi => ?_⟩
    rw [hB.1] at hi
    obtain rfl : i = k := by simpa using hi
    have hk := ht i (by simp)
    have h0 : l[i]? = some l[i] := List.getElem?_eq_getElem hk.2
    have e1 : opsAt l (i :: ts) = l[i] :: opsAt l ts := by simp [opsAt, h0]
    simp only [opsAt, List.filterMap_nil, wJ] at h
    change wO P l.toArray n false (opsAt l (i :: ts)) Qf f w at h
    rw [e1] at h
    have h2 := wO_run h hs
    have hw : wpOp P l.toArray (fun e a' w' => e = .normal ∧ ∃ f', Sm n a' f' ∧ Qf f' w') i (wpList P l.toArray (fun e a' w' => e = .normal ∧ ∃ f', Sm n a' f' ∧ Qf f' w') (opsAt l ts)) a w := by
      unfold wpOp
      simp only [List.getElem?_toArray, h0]
      exact h2
    refine wpOp_mono' (fun a' w' h' => ⟨fun h3 => absurd hk.1 (Nat.not_le.2 h3), ?_⟩) (fun e a w he h' => absurd h'.1 he) hw
    exact wpJ_of_seqT (J := J) hq ts (listed.setIfInBounds i true) a' w' (fun k hk => ht k (by simp [hk])) hB.2 h'
  | k :: cs, ts, listed, f, a, w, hc, ht, hs, hB, h => by
    simp only [List.cons_append, seqAt, Bool.and_eq_true, decide_eq_true_eq] at hB
    rw [show (k :: cs).length + ts.length = cs.length + ts.length + 1 by simp; omega]
    refine ⟨fun h1 => (by rw [hB.1] at h1; cases h1), fun i hi => ?_⟩
    rw [hB.1] at hi
    obtain rfl : i = k := by simpa using hi
    have hk := hc i (by simp)
    have h0 : l[i]? = some l[i] := List.getElem?_eq_getElem hk
    have e1 : opsAt l (i :: cs) = l[i] :: opsAt l cs := by simp [opsAt, h0]
    rw [e1] at h
    have h2 := wO_run h hs
    have hw : wpOp P l.toArray (fun e a' w' => e = .normal ∧ ∃ f', Sm n a' f' ∧ J w' ∧ wJ P l.toArray n J (opsAt l cs) (fun f' w' => wO P l.toArray n false (opsAt l ts) Qf f' w') f' w') i (wpList P l.toArray (fun e a' w' => e = .normal ∧ ∃ f', Sm n a' f' ∧ J w' ∧ wJ P l.toArray n J (opsAt l cs) (fun f' w' => wO P l.toArray n false (opsAt l ts) Qf f' w') f' w') []) a w := by
      unfold wpOp
      simp only [List.getElem?_toArray, h0]
      exact h2
    refine wpOp_mono' (fun a' w' h' => ?_) (fun e a w he h' => absurd h'.1 he) hw
    obtain ⟨_, f', hf', hJ, h3⟩ := h'
    exact ⟨fun _ => hJ, wpJ_of_seq hq hp cs ts (listed.setIfInBounds i true) f' a' w' (fun k hk => hc k (by simp [hk])) ht hf' hB.2 h3⟩
where
  wpOp_mono' {P : Program} {ops : Array Oper} {Q Q' : Exit → Act → World → Prop} {i : Nat} {K K' : Act → World → Prop} {a : Act} {w : World} (h : ∀ a w, K a w → K' a w) (hq : ∀ e a w, e ≠ .normal → Q e a w → Q' e a w) (hh : wpOp P ops Q i K a w) : wpOp P ops Q' i K' a w := by
    unfold wpOp at *
    split
    · exact h _ _ (by simpa [*] using hh)
    · rename_i o ho
      simp only [ho] at hh
      split
      · rename_i hw
        simp only [hw, if_true] at hh
        rcases hh with hh | ⟨h1, h2⟩
        · refine .inl ?_
          unfold Oper.wp at *
          generalize (execOp a.eval o).run P w = r at *
          cases r with
          | ok x w1 =>
            cases x <;> first | exact h _ _ hh | exact hh | skip
            · exact Calls.mono hh fun e w2 he => by
                cases e with
                | returned v => exact h _ _ he
                | panicked ch => exact hq _ _ _ (by simp) he
                | outgrown => obtain ⟨a0, w0, q⟩ := he; exact ⟨a0, w0, hq _ _ _ (by simp) q⟩
            all_goals first | exact h _ _ hh | exact Rows.mono hh (fun v w' hv => h _ _ hv) | exact hh
          | halt x w1 => cases x <;> first | exact hq _ _ _ (by simp) hh | exact hh
        · obtain ⟨a0, w0, q⟩ := h2
          exact .inr ⟨h1, a0, w0, hq _ _ _ (by simp) q⟩
      · rename_i hw; simp only [hw] at hh; exact h _ _ hh
  wpJ_of_seqT {J : World → Prop} {N : Nat} {md : Region.Mode} {l : List Oper} {Q : Exit → Act → World → Prop} {Qf : Fr → World → Prop} (hq : ∀ f a w, Sm n a f → Qf f w → Q .normal a w) :
      ∀ (ts : List Nat) (listed : Array Bool) (a : Act) (w : World), (∀ k ∈ ts, N ≤ k ∧ k < l.length) → seqAt md l.toArray ts listed = true →
        wpList P l.toArray (fun e a' w' => e = .normal ∧ ∃ f', Sm n a' f' ∧ Qf f' w') (opsAt l ts) a w → wpJ P md l.toArray J N Q ts.length listed a w
    | [], listed, a, w, _, hB, h => by
      refine ⟨by simpa [seqAt] using hB, ?_⟩
      obtain ⟨_, f', hf', q⟩ := h
      exact hq f' a w hf' q
    | k :: ts, listed, a, w, ht, hB, h => by
      simp only [seqAt, Bool.and_eq_true, decide_eq_true_eq] at hB
      simp only [List.length_cons]
      refine ⟨fun h1 => (by rw [hB.1] at h1; cases h1), fun i hi => ?_⟩
      rw [hB.1] at hi
      obtain rfl : i = k := by simpa using hi
      have hk := ht i (by simp)
      have h0 : l[i]? = some l[i] := List.getElem?_eq_getElem hk.2
      have e1 : opsAt l (i :: ts) = l[i] :: opsAt l ts := by simp [opsAt, h0]
      rw [e1] at h
      have hw : wpOp P l.toArray (fun e a' w' => e = .normal ∧ ∃ f', Sm n a' f' ∧ Qf f' w') i (wpList P l.toArray (fun e a' w' => e = .normal ∧ ∃ f', Sm n a' f' ∧ Qf f' w') (opsAt l ts)) a w := by
        unfold wpOp
        simp only [List.getElem?_toArray, h0]
        exact h
      exact wpOp_mono' (fun a' w' h' => ⟨fun h3 => absurd hk.1 (Nat.not_le.2 h3), wpJ_of_seqT hq ts (listed.setIfInBounds i true) a' w' (fun k hk => ht k (by simp [hk])) hB.2 h'⟩) (fun e a w he h' => absurd h'.1 he) hw
theorem wpJ_of_head {J : World → Prop} {N : Nat} {md : Region.Mode} {l : List Oper} {Q : Exit → Act → World → Prop} {Qf : Fr → World → Prop} {F : Fr} (hq : ∀ f a w, Sm n a f → Qf f w → Q .normal a w) (hp : ∀ e a w, e ≠ .normal → ¬ Q e a w)
    (hsel : Region.noSelect l.toArray = true) (hs : Region.sinkB md l.toArray N = true) (hc : Region.chainB md l.toArray N = true) (hn : N < l.toArray.size) (cs ts : List Nat) (hcs : ∀ k ∈ cs, k < l.length) (hts : ∀ k ∈ ts, N ≤ k ∧ k < l.length) :
    ∀ (rs : List Nat) (listed : Array Bool) (a : Act), a.tmps.size = n → HeadInv md l.toArray N listed → dstsB n (opsAt l rs) = true → headAt md l.toArray N (cs ++ ts) rs listed = true → J w →
      (∀ w', J w' → wpStill P l.toArray w' (fun a' => Sm n a' F) (opsAt l rs) a) →
      wJ P l.toArray n J (opsAt l cs) (fun f' w' => wO P l.toArray n false (opsAt l ts) Qf f' w') F w → wpJ P md l.toArray J N Q (rs.length + (cs.length + ts.length)) listed a w
  | [], listed, a, _, inv, _, hB, hJ, h, hr => by
    rw [List.length_nil, Nat.zero_add]
    exact wpJ_of_seq hq hp cs ts listed F a w hcs hts (h w hJ) hB hr
  | k :: rs, listed, a, ha, inv, hD, hB, hJ, h, hr => by
    simp only [headAt, Bool.and_eq_true] at hB
    obtain ⟨⟨⟨hr1, hf⟩, hkn⟩, hB'⟩ := hB
    have hkN : k < N := by rw [← Nat.blt_eq]; exact hkn
    have hk : k < l.length := by simp at hn; omega
    have h0 : l[k]? = some l[k] := List.getElem?_eq_getElem hk
    have h0' : l.toArray[k]? = some l[k] := by simp [h0]
    have e1 : opsAt l (k :: rs) = l[k] :: opsAt l rs := by simp [opsAt, h0]
    have hr' : k ∈ Region.ready md l.toArray listed := by simpa using hr1
    rw [e1] at hD
    simp only [dstsB, Bool.and_eq_true] at hD
    have hst : ∀ w', J w' → ∃ v, YieldsAt P l.toArray w' l[k] v a ∧ wpStill P l.toArray w' (fun a' => Sm n a' F) (opsAt l rs) (a.put l[k].dst v) := fun w' hw' => by
      have := h w' hw'
      rw [e1] at this
      refine yieldsAt_of_stOp h0' ?_
      unfold stOp
      simp only [h0']
      exact this
    have same : ∃ v, ∀ w', J w' → YieldsAt P l.toArray w' l[k] v a ∧ wpStill P l.toArray w' (fun a' => Sm n a' F) (opsAt l rs) (a.put l[k].dst v) := by
      cases hd : l[k].dst with
      | none => rw [hd] at hD; exact absurd hD.1 (by simp)
      | some d =>
        rw [hd] at hD
        simp only [Bool.and_eq_true] at hD
        obtain ⟨⟨hdn, hall⟩, _⟩ := hD
        have hdn : d < n := by rw [← Nat.blt_eq]; exact hdn
        refine ⟨F d, fun w' hw' => ?_⟩
        obtain ⟨v, hv, hv2⟩ := hst w' hw'
        have := still_keep hdn _ _ (fun o ho => by have := List.all_eq_true.1 hall o ho; simpa using this) hv2
        rw [hd] at this
        have e2 : (a.put (some d) v).tmps[d]? = some v := by
          show (a.tmps.setIfInBounds d v)[d]? = some v
          rw [Array.getElem?_setIfInBounds_self_of_lt (by rw [ha]; exact hdn)]
        rw [e2] at this
        cases this
        rw [← hd]
        exact ⟨hv, hv2⟩
    obtain ⟨v, hv⟩ := same
    rw [show (k :: rs).length + (cs.length + ts.length) = rs.length + (cs.length + ts.length) + 1 by simp; omega]
    exact wpJ_first h0' (Region.noSelect_spec hsel) hs hc hn hkN (fun c a w hq' => absurd hq' (hp _ _ _ (by simp))) _ listed a w inv (Region.free_spec h0' hf) hr' (fun w' hw' => (hv w' hw').1) hJ
      (wpJ_of_head hq hp hsel hs hc hn cs ts hcs hts rs _ _ (by cases hd : l[k].dst <;> simp [Act.put, ha]) (inv.set hr' hkN) hD.2 hB' hJ (fun w' hw' => (hv w' hw').2) hr)

theorem opsAt_drop (l : List Oper) : ∀ (m N : Nat), N + m = l.length → opsAt l ((List.range m).map (N + ·)) = l.drop N
  | 0, N, h => by rw [List.drop_eq_nil_of_le (by omega)]; rfl
  | m + 1, N, h => by
    have hN : N < l.length := by omega
    rw [List.drop_eq_getElem_cons hN, List.range_succ_eq_map, List.map_cons, List.map_map]
    have e : (List.range m).map ((fun x => N + x) ∘ Nat.succ) = (List.range m).map (fun x => N + 1 + x) := List.map_congr_left fun x _ => by show N + (x + 1) = _; omega
    rw [e]
    have := opsAt_drop l m (N + 1) (by omega)
    unfold opsAt at this ⊢
    rw [List.filterMap_cons, this]
    simp [hN]

/-- What reads (rs) at any world of J; what lays, in its order (cs); and the rest. -/
theorem wC_mix {QC : Exit → Fr → World → Prop} {id : Nat} {l : List Oper} (J : World → Prop) (N : Nat) (rs cs : List Nat) (F : Fr) (hm : P.follows .mixedOrders = true) (hB : mixB .any n l N rs cs = true) (hJ : J w.drew)
    (hread : ∀ w', J w' → wO P l.toArray n true (opsAt l rs) (fun f' _ => f' = F) f w')
    (hrest : wJ P l.toArray n J (opsAt l cs) (fun f' w' => wO P l.toArray n false (l.drop N) (fun f'' w'' => QC .normal f'' w'') f' w') F w.drew) : wC P n (.region id l.toArray true) QC f w := by
  unfold wC
  intro a ha
  simp only [mixB, Bool.and_eq_true] at hB
  obtain ⟨⟨⟨⟨⟨⟨⟨hsel, hn⟩, hs⟩, hc⟩, hcs⟩, hD⟩, hlen⟩, hB⟩ := hB
  have hn : N < l.length := by rw [← Nat.blt_eq]; exact hn
  have hlen := Nat.eq_of_beq_eq_true hlen
  refine wp_mono (Q := fun e a' w' => e = .normal ∧ ∃ f', Sm n a' f' ∧ QC .normal f' w') ?_ (by rintro e a' w' ⟨rfl, h⟩; exact h)
  refine wp_region_any hm (wpAny_of_J (J := J) (n := N) _ _ _ _ ?_)
  have inv0 : HeadInv .any l.toArray N (Array.replicate l.toArray.size false) :=
    ⟨by simp, fun j oj _ hl => (by rw [getD_replicate_false] at hl; cases hl), fun t _ ht => getD_in (by simpa using ht) (getD_replicate_false _ _)⟩
  have := wpJ_of_head (n := n) (w := w.drew) (J := J) (N := N) (md := .any) (l := l) (Q := fun e a' w' => e = .normal ∧ ∃ f', Sm n a' f' ∧ QC .normal f' w') (Qf := fun f' w' => QC .normal f' w') (F := F)
    (fun f a w hs q => ⟨rfl, f, hs, q⟩) (fun e a w he h => he h.1) hsel hs hc (by simpa using hn) cs ((List.range (l.length - N)).map (N + ·))
    (fun k hk => by have := List.all_eq_true.1 hcs k hk; rw [Nat.blt_eq] at this; omega) (fun k hk => by
      obtain ⟨i, hi, rfl⟩ := List.mem_map.1 hk
      have := List.mem_range.1 hi
      omega) rs (Array.replicate l.toArray.size false) a ha.size inv0 hD hB hJ
    (fun w' hw' => by
      have h2 := wO_still (hread w' hw') ha
      exact stillMono (fun a' h => by obtain ⟨f', h1, rfl⟩ := h; exact h1) h2) (by rw [opsAt_drop l _ N (by omega)]; exact hrest)
  have e : rs.length + (cs.length + ((List.range (l.length - N)).map (N + ·)).length) = l.toArray.size := by simp; omega
  rw [e] at this
  exact this
where
  stillMono {P : Program} {ops : Array Oper} {w : World} {Q Q' : Act → Prop} {l : List Oper} {a : Act} (hq : ∀ a, Q a → Q' a) (h : wpStill P ops w Q l a) : wpStill P ops w Q' l a := by
    induction l generalizing a with
    | nil => exact hq _ h
    | cons o l ih =>
      unfold wpStill at h ⊢
      split
      · rename_i hw
        rw [if_pos hw] at h
        exact Oper.still_mono (fun a h => ih h) h
      · rename_i hw
        rw [if_neg hw] at h
        exact ih h

/-- The length of a map that is only read: how many entries it holds at most. -/
theorem o_lenS {md : Bool} {ops : Array Oper} {rest : List Oper} {w0 : World} {Q : Fr → World → Prop} {f0 : FP} {L : List HP} {d : Tmp} {x : Operand} {ty t kt e : TypeId} {pos : String} {after : Array Edge} {α : Type} {E : EK P e α} {N : Nat} {G : Int → Option α} {v : Option Nat}
    (ht : P.underlying t = some (.map kt e)) (H : St w0 f0 L w) (hR : RdM E kt (okOf w0 f0) w0 v N G) (hx : ev f x = .map v) (h : ∀ n', RdM E kt (okOf w0 f0) w0 v n' G → wO P ops n md rest Q (up f d (.int .i64 (n' : Nat))) w) (hd : Nat.blt d n = true := by rfl) :
    wO P ops n md (⟨some d, .call { callee := .builtin .len, args := #[x], argTypes := #[t] }, ty, pos, after, none⟩ :: rest) Q f w := by
  rcases hR with ⟨rfl, h0⟩ | ⟨b, rfl, hok, hM⟩
  · refine o_pure (v := .int .i64 (0 : Nat)) rfl hd ?_ (h 0 (.inl ⟨rfl, h0⟩))
    simp [execOp, resolve, invoke, builtin, hx, Builtin.len_, run_underlying ht, goInt, Result.andThen]
  · obtain ⟨es, clock, hb, hz⟩ := hM.froz
    refine o_pure (v := .int .i64 (es.size : Nat)) rfl hd ?_ (h es.size (.inr ⟨b, rfl, hok, IsM.of_froz hb ⟨hz.1, Nat.le_refl _, hz.2.2⟩⟩))
    have hb' := (H.ok0 b hok).2.trans hb
    simp [execOp, resolve, invoke, builtin, hx, Builtin.len_, run_underlying ht, goInt, Result.andThen, getObj, hb', Sem.run]
theorem RdM.wf {α : Type} {e kt : TypeId} {E : EK P e α} {ok : FP} {w : World} {v : Option Nat} {N : Nat} {G : Int → Option α} (h : RdM E kt ok w v N G) {k : Int} (hk : G k ≠ none) : wfi k := by
  rcases h with ⟨_, h0⟩ | ⟨b, _, _, _, _, hw, _⟩
  · exact absurd (h0 k) hk
  · exact hw k hk
end
end
section
open Go Go.RowKit

/-- Many pieces as one. -/
def star (L : List HP) : HP where
  sat w f := SF L w f
  loc := SF.loc
  dom := SF.dom

section
variable {w0 w : World} {f0 : FP} {L : List HP}

theorem St.pull (H : St w0 f0 L w) (i : Nat) {Ls : List HP} (hi : L[i]? = some (star Ls)) (j : Nat) {R : HP} (hj : Ls[j]? = some R) : St w0 f0 (L.set i (star (Ls.eraseIdx j)) ++ [R]) w := by
  obtain ⟨f, hf, hfb⟩ := H.sf
  obtain ⟨f1, f2, e1, e2, e3, e4, e5⟩ := hf.focus i hi
  obtain ⟨g1, g2, k1, k2, k3, k4, _⟩ := SF.focus j (show SF Ls w f1 from e3) hj
  refine ⟨H.step, fun b => (g2 b ∨ f2 b) ∨ g1 b, SF.app.2 ⟨fun b => g2 b ∨ f2 b, g1, fun b => Iff.rfl, ?_, ?_, SF.one k3⟩, ?_⟩
  · rintro b (hb | hb) h1
    · exact k2 b h1 hb
    · exact e2 b ((k1 b).2 (.inl h1)) hb
  · exact e5 w (star (Ls.eraseIdx j)) g2 f2 k4 e4 fun b hb hb2 => e2 b ((k1 b).2 (.inr hb)) hb2
  · rintro b ((hb | hb) | hb)
    · exact hfb b ((e1 b).2 (.inl ((k1 b).2 (.inr hb))))
    · exact hfb b ((e1 b).2 (.inr hb))
    · exact hfb b ((e1 b).2 (.inl ((k1 b).2 (.inl hb))))

/-- A piece laid into many, at its place. -/
theorem SF.ins {R : HP} : ∀ {Ls : List HP} (j : Nat) {g1 g2 : FP}, j < Ls.length → SF (Ls.eraseIdx j) w g2 → R.sat w g1 → (∀ b, g1 b → ¬ g2 b) → SF (Ls.set j R) w (fun b => g1 b ∨ g2 b)
  | [], j, _, _, hj, _, _, _ => absurd hj (Nat.not_lt_zero _)
  | B :: Ls, 0, g1, g2, _, h2, h1, hd => ⟨g1, g2, fun b => Iff.rfl, hd, h1, h2⟩
  | B :: Ls, j + 1, g1, g2, hj, h2, h1, hd => by
    obtain ⟨p1, p2, e1, e2, e3, e4⟩ := h2
    have ih := SF.ins (R := R) (Ls := Ls) j (by simpa using hj) e4 h1 fun b hb hp => hd b hb ((e1 b).2 (.inr hp))
    refine ⟨p1, fun b => g1 b ∨ p2 b, fun b => ?_, fun b hb hk => ?_, e3, ih⟩
    · show (g1 b ∨ g2 b) ↔ (p1 b ∨ (g1 b ∨ p2 b))
      rw [e1]; exact ⟨fun h => by rcases h with h | h | h <;> simp [h], fun h => by rcases h with h | h | h <;> simp [h]⟩
    · rcases hk with hk | hk
      · exact hd b hk ((e1 b).2 (.inl hb))
      · exact e2 b hb hk

theorem St.push {L1 : List HP} {R : HP} (H : St w0 f0 (L1 ++ [R]) w) (i : Nat) {Ls : List HP} (j : Nat) (hi : L1[i]? = some (star (Ls.eraseIdx j))) (hj : j < Ls.length) : St w0 f0 (L1.set i (star (Ls.set j R))) w := by
  obtain ⟨f, hf, hfb⟩ := H.sf
  obtain ⟨f1, f2, e1, e2, e3, e4⟩ := SF.app.1 hf
  have e4 := SF.of_one e4
  obtain ⟨g1, g2, k1, k2, k3, k4, k5⟩ := SF.focus i e3 hi
  have hs := SF.ins (R := R) j hj (show SF (Ls.eraseIdx j) w g1 from k3) e4 fun b hb hb2 => e2 b ((k1 b).2 (.inl hb2)) hb
  refine ⟨H.step, _, k5 w (star (Ls.set j R)) (fun b => f2 b ∨ g1 b) g2 hs k4 ?_, ?_⟩
  · rintro b (hb | hb) hb2
    · exact e2 b ((k1 b).2 (.inr hb2)) hb
    · exact k2 b hb hb2
  · rintro b ((hb | hb) | hb)
    · exact hfb b ((e1 b).2 (.inr hb))
    · exact hfb b ((e1 b).2 (.inl ((k1 b).2 (.inl hb))))
    · exact hfb b ((e1 b).2 (.inl ((k1 b).2 (.inr hb))))

/-- Some pieces made one; and one piece more for it. -/
theorem St.star0 (H : St w0 f0 L w) : St w0 f0 (L ++ [star []]) w :=
  H.add _ (Step.refl _ _) (g := fun _ => False) (fun _ h => h) fun _ h => h.elim
theorem St.more {L1 : List HP} {R : HP} (H : St w0 f0 (L1 ++ [R]) w) (i : Nat) {Ls : List HP} (hi : L1[i]? = some (star Ls)) : St w0 f0 (L1.set i (star (Ls ++ [R]))) w := by
  have h1 : (Ls ++ [R]).eraseIdx Ls.length = Ls := by
    rw [List.eraseIdx_append_of_length_le (Nat.le_refl _), Nat.sub_self]; simp
  have h2 : (Ls ++ [R]).set Ls.length R = Ls ++ [R] := by
    rw [List.set_append_right _ _ (Nat.le_refl _), Nat.sub_self]; rfl
  have := H.push (Ls := Ls ++ [R]) i Ls.length (by rw [h1]; exact hi) (by simp)
  rwa [h2] at this
end

/-! ### rows of structs, as lists -/
section
variable {α : Type} {f : α → List Value} {sz : Nat}
theorem flat_len {l : List α} (h : ∀ a ∈ l, (f a).length = sz) : (l.flatMap f).length = l.length * sz := by
  induction l with
  | nil => simp
  | cons x l ih =>
    rw [List.flatMap_cons, List.length_append, ih fun a ha => h a (by simp [ha]), h x (by simp), List.length_cons, Nat.succ_mul, Nat.add_comm]
theorem flat_drop {l : List α} (h : ∀ a ∈ l, (f a).length = sz) : ∀ j, (l.flatMap f).drop (j * sz) = (l.drop j).flatMap f := by
  induction l with
  | nil => intro j; simp
  | cons x l ih =>
    intro j
    cases j with
    | zero => simp
    | succ j =>
      rw [List.flatMap_cons, Nat.succ_mul, Nat.add_comm, ← List.drop_drop, List.drop_left' (h x (by simp)), ih (fun a ha => h a (by simp [ha])) j]; rfl
theorem flat_at {l : List α} (h : ∀ a ∈ l, (f a).length = sz) {j : Nat} {a : α} (ha : l[j]? = some a) : ((l.flatMap f).drop (j * sz)).take sz = f a := by
  rw [flat_drop h]
  obtain ⟨hj, he⟩ := List.getElem?_eq_some_iff.1 ha
  rw [List.drop_eq_getElem_cons hj, he, List.flatMap_cons, List.take_left' (h a (List.mem_of_getElem? ha))]
theorem flat_get {l : List α} (h : ∀ a ∈ l, (f a).length = sz) {j o : Nat} {a : α} (ha : l[j]? = some a) (ho : o < sz) : (l.flatMap f)[j * sz + o]? = (f a)[o]? := by
  have := congrArg (fun l => l[o]?) (flat_at h ha)
  simp only [List.getElem?_take_of_lt ho, List.getElem?_drop] at this
  exact this
theorem flat_set {l : List α} (h : ∀ a ∈ l, (f a).length = sz) {j : Nat} {a : α} (hj : j < l.length) (ha : (f a).length = sz) : lay (l.flatMap f) (j * sz) (f a) = (l.set j a).flatMap f := by
  have h1 := flat_drop h (j + 1)
  have ht : (l.flatMap f).take (j * sz) = (l.take j).flatMap f := by
    conv => lhs; rw [← List.take_append_drop j l, List.flatMap_append]
    rw [List.take_left']
    rw [flat_len fun a ha => h a (List.mem_of_mem_take ha), List.length_take]
    rw [Nat.min_eq_left (Nat.le_of_lt hj)]
  unfold lay
  rw [ha, ← Nat.succ_mul, h1, ht, List.set_eq_take_append_cons_drop, if_pos hj]
  simp [List.flatMap_append]
end

theorem St.rdStar {w0 w : World} {f0 : FP} {L : List HP} (H : St w0 f0 L w) (i : Nat) {Ls : List HP} (hi : L[i]? = some (star Ls)) (j : Nat) {A : Option Addr} {n c : Nat} {e : TypeId} {sz : Nat} {cs : List Value} (hj : Ls[j]? = some (row A n c e sz cs)) : RdS (okOf w fun _ => False) w A n c sz cs := by
  have := H.pull i hi j hj
  exact this.rdR (e := e) L.length (by rw [List.getElem?_append_right (by simp)]; simp)

/-- Slices of slices, only read. -/
def Rd2 {α : Type} (enc : α → Value) (ok : FP) (w : World) (A : Option Addr) (n c : Nat) (ls : List (List α)) : Prop :=
  ls.length = n ∧ ∃ hs : List Value, RdS ok w A n c 1 hs ∧ ∀ (j : Nat) l, ls[j]? = some l → ∃ A' c', hs[j]? = some (.slice A' l.length c') ∧ RdS ok w A' l.length c' 1 (l.map enc)
theorem Rd2.loc {α : Type} {enc : α → Value} {ok ok' : FP} {w w' : World} {A : Option Addr} {n c : Nat} {ls : List (List α)} (h : Rd2 enc ok w A n c ls) (hk : ∀ b, ok b → ok' b ∧ w'.heap[b]? = w.heap[b]?) : Rd2 enc ok' w' A n c ls := by
  obtain ⟨h0, hs, h1, h2⟩ := h
  refine ⟨h0, hs, h1.loc hk, fun j l hj => ?_⟩
  obtain ⟨A', c', h3, h4⟩ := h2 j l hj
  exact ⟨A', c', h3, h4.loc hk⟩

/-- Heads of rows, and the rows. -/
abbrev Hd (α : Type) := (Option Addr × Nat) × List α
def hdv {α : Type} (x : Hd α) : Value := .slice x.1.1 x.2.length x.1.2
def hrow {α : Type} (enc : α → Value) (e : TypeId) (x : Hd α) : HP := row x.1.1 x.2.length x.1.2 e 1 (x.2.map enc)
theorem hdv_one {α : Type} (L : List (Hd α)) : ∀ u ∈ L.map hdv, u.oneCell' = true := by
  intro u hu
  obtain ⟨x, _, rfl⟩ := List.mem_map.1 hu
  rfl

/-- Rows of the call's own, as they may be read. -/
theorem St.rd2 {α : Type} {enc : α → Value} {w0 w : World} {f0 : FP} {L : List HP} (H : St w0 f0 L w) (i k : Nat) {A : Option Addr} {n c : Nat} {e e1 : TypeId} {hs : List (Hd α)} (hi : L[i]? = some (row A n c e1 1 (hs.map hdv))) (hk : L[k]? = some (star (hs.map (hrow enc e)))) (hn : hs.length = n) : Rd2 enc (okOf w fun _ => False) w A n c (hs.map (·.2)) := by
  refine ⟨by simpa using hn, hs.map hdv, H.rdR i hi, fun j l hj => ?_⟩
  rw [List.getElem?_map] at hj
  obtain ⟨x, hx, rfl⟩ := Option.map_eq_some_iff.1 hj
  refine ⟨x.1.1, x.1.2, by rw [List.getElem?_map, hx]; rfl, ?_⟩
  exact H.rdStar k hk j (e := e) (by rw [List.getElem?_map, hx]; rfl)

/-- n rows that are nothing yet. -/
theorem St.nils {w0 w : World} {f0 : FP} {L : List HP} (H : St w0 f0 L w) {α : Type} (enc : α → Value) (e : TypeId) : ∀ n, St w0 f0 (L ++ [star ((List.replicate n (((none, 0), []) : Hd α)).map (hrow enc e))]) w
  | 0 => H.star0
  | n + 1 => by
    have h1 := (St.nils H enc e n).addNil e 1
    have h2 := h1.more L.length (Ls := (List.replicate n (((none, 0), []) : Hd α)).map (hrow enc e)) (by rw [List.getElem?_append_right (Nat.le_refl _), Nat.sub_self]; rfl)
    rw [List.set_append_right _ _ (Nat.le_refl _), Nat.sub_self] at h2
    have : (List.replicate (n + 1) (((none, 0), []) : Hd α)).map (hrow enc e) = (List.replicate n (((none, 0), []) : Hd α)).map (hrow enc e) ++ [row none 0 0 e 1 []] := by
      rw [List.replicate_succ', List.map_append]; rfl
    rw [this]
    exact h2

/-! ### other results -/
def resF (P : Program) (fn : Func) (f : Fr) (w : World) (v : Value) : Prop := ∀ a, Sm fn.ntmps a f → (results fn a.tmps).run P w = .ok v w
def doneG (P : Program) (fn : Func) (R : Value → World → Prop) : Exit → Fr → World → Prop
  | .ret, f, w => ∃ v, resF P fn f w v ∧ R v w
  | .normal, f, w => ∃ v, resF P fn f w v ∧ R v w
  | _, _, _ => False

theorem calls_ofG {P : Program} {g : FuncId} {fn : Func} {c : Code} {args : List Value} {w : World} {R : Value → World → Prop}
    (hf : P.funcs[g]? = some fn) (hb : fn.body = some c) (hn : Nat.ble args.length fn.ntmps = true) (h : wC P fn.ntmps c (doneG P fn R) (fr0 args) w) : CallsV P g args.toArray w R := by
  have hn' : args.length ≤ fn.ntmps := Nat.le_of_ble_eq_true hn
  unfold wC at h
  refine calls_of_wp hf hb (wp_mono (h _ ⟨by simp; omega, fun i hi => ?_, fun i hi => ?_, rfl⟩) ?_)
  · show _ = some (args.getD i undef)
    rw [List.getD_eq_getElem?_getD]
    by_cases h1 : i < args.length
    · rw [Array.getElem?_append_left (by simpa using h1)]
      simp [h1]
    · rw [Array.getElem?_append_right (by simp; omega)]
      have h2 : args.length ≤ i := Nat.le_of_not_lt h1
      rw [List.getElem?_eq_none h2]
      rw [Array.getElem?_replicate, if_pos (by simp; omega)]
      rfl
  · show args.getD i undef = undef
    rw [List.getD_eq_getElem?_getD, List.getElem?_eq_none (by omega)]; rfl
  · rintro e a w1 ⟨f1, hf1, q⟩
    cases e with
    | ret => obtain ⟨v, hv, q⟩ := q; exact ⟨hf1.df, v, hv a hf1, v, rfl, q⟩
    | normal => obtain ⟨v, hv, q⟩ := q; exact ⟨hf1.df, v, hv a hf1, v, rfl, q⟩
    | _ => exact q.elim

theorem Sm.get {n : Nat} {a : Act} {f : Fr} (h : Sm n a f) {t : Nat} (ht : t < n) : a.tmps.getD t undef = f t := by
  rw [Array.getD_eq_getD_getElem?, h.at_ t ht]; rfl
theorem res_none {P : Program} {fn : Func} {f : Fr} {w : World} (hr : fn.results = #[]) : resF P fn f w (.tuple #[]) := fun a _ => results_none hr _ _ _
theorem res_two {P : Program} {fn : Func} {f : Fr} {w : World} {t u : Tmp} {x y : Value} (hr : fn.results = #[.tmp t, .tmp u]) (ht : Nat.blt t fn.ntmps = true) (hu : Nat.blt u fn.ntmps = true) (hx : f t = x) (hy : f u = y) : resF P fn f w (.tuple #[x, y]) := fun a ha => by
  rw [results_tmp2 hr, ha.get (by rw [← Nat.blt_eq]; exact ht), ha.get (by rw [← Nat.blt_eq]; exact hu), hx, hy]
theorem res_cell {P : Program} {fn : Func} {f : Fr} {w : World} {t : Tmp} {ty : TypeId} {ad : Addr} {v : Value} (hr : fn.results = #[.cell t ty]) (ht : Nat.blt t fn.ntmps = true) (hx : f t = .pointer (some ad)) (hl : (loadVar ty ad).run P w = .ok v w) : resF P fn f w v := fun a ha => by
  have e : a.tmps[t]?.getD undef = .pointer (some ad) := by
    rw [ha.at_ t (by rw [← Nat.blt_eq]; exact ht)]; exact hx
  simp [results, hr, e, asAddr, hl]

theorem o_callN {P : Program} {n : Nat} {ops : Array Oper} {rest : List Oper} {f : Fr} {w : World} {Q : Fr → World → Prop} {d : Option Tmp} {ty : TypeId} {pos : String} {after : Array Edge} {g : FuncId} {l : List Operand} {vs : List Value} {ats : Array TypeId} {R : Value → World → Prop} {fn : Func} (hF : IsF P g fn) (hv : l.map (ev f) = vs) (hc : CallsV P g vs.toArray w R)
    (h : ∀ v w', R v w' → wO P ops n false rest Q (upO f d v) w') (hd : dOk n d = true := by rfl) : wO P ops n false (⟨d, .call { callee := .value (.func g), args := l.toArray, argTypes := ats }, ty, pos, after, none⟩ :: rest) Q f w := by
  subst hv
  refine o_call (w' := w) (g := g) (args := (l.map (ev f)).toArray) rfl hd ?_ hc h
  obtain ⟨c, hcc⟩ := Option.isSome_iff_exists.1 hF.body
  simp [execOp, resolve, invoke, ev, Deferred.ofValue, callFunc, hF.here, hcc, hF.name]
end
section
open Go Go.RowKit

def emp : HP where
  sat w f := ∀ b, ¬ f b
  loc := fun h _ => h
  dom := fun h b hb => absurd hb (h b)

theorem St.fill {w0 w : World} {f0 : FP} {L1 : List HP} {R : HP} (H : St w0 f0 (L1 ++ [R]) w) (k : Nat) (hk : L1[k]? = some emp) : St w0 f0 (L1.set k R) w := by
  obtain ⟨f, hf, hfb⟩ := H.sf
  obtain ⟨f1, f2, e1, e2, e3, e4⟩ := SF.app.1 hf
  have e4 := SF.of_one e4
  obtain ⟨g1, g2, k1, k2, k3, k4, k5⟩ := SF.focus k e3 hk
  refine ⟨H.step, _, k5 w R f2 g2 e4 k4 fun b hb hb2 => e2 b ((k1 b).2 (.inr hb2)) hb, ?_⟩
  rintro b (hb | hb)
  · exact hfb b ((e1 b).2 (.inr hb))
  · exact hfb b ((e1 b).2 (.inl ((k1 b).2 (.inr hb))))
theorem St.emps {w0 w : World} {f0 : FP} {L : List HP} (H : St w0 f0 L w) : ∀ (C : List Nat), St w0 f0 (L ++ C.map fun _ => emp) w
  | [] => by simpa using H
  | i :: C => by
    have h1 := (H.add emp (Step.refl w _) (g := fun _ => False) (fun _ h => h) fun _ h => h.elim)
    have := St.emps h1 C
    rw [List.append_assoc] at this
    exact this

section
variable {P : Program} {n : Nat} {md : Region.Mode} {l : List Oper}

def dstAt (l : List Oper) (i : Nat) : Nat := ((l[i]?).bind (·.dst)).getD 0
def notDst (l : List Oper) (C : List Nat) (s : Nat) : Bool := C.all fun i => !Nat.beq (dstAt l i) s
def endAt (rs : List Nat) (listed : Array Bool) : Array Bool := rs.foldl (fun li k => li.setIfInBounds k true) listed
def readB (md : Region.Mode) (ops : Array Oper) (n : Nat) : List Nat → Array Bool → Bool
  | [], _ => true
  | k :: rs, listed => (Region.ready md ops listed).contains k && Region.free md ops listed k && Nat.blt k n && readB md ops n rs (listed.setIfInBounds k true)
def backB (md : Region.Mode) (l : List Oper) : Bool := (List.range l.length).all fun j => match l[j]? with | some o => o.after.all fun e => !Region.binds md e || Nat.blt e.on j | none => true
def ndB : List Nat → Bool
  | [] => true
  | x :: l => !l.contains x && ndB l
def mixA (md : Region.Mode) (m : Nat) (l : List Oper) (n : Nat) (rs C : List Nat) : Bool :=
  Region.noSelect l.toArray && Nat.blt n l.length && Region.sinkB md l.toArray n && Region.chainB md l.toArray n && dstsB m (opsAt l rs) && readB md l.toArray n rs (Array.replicate l.toArray.size false) && backB md l &&
    ndB (C.map (dstAt l)) && (C.all fun i => Nat.blt i n) && ((List.range n).all fun i => rs.contains i || C.contains i) && (C.all fun i => !rs.contains i) && Nat.beq (rs.length + C.length) n &&
    seqAt md l.toArray ((List.range (l.length - n)).map (n + ·)) (Array.replicate n true ++ Array.replicate (l.length - n) false)

theorem wpJ_of_read {J : World → Prop} {N M : Nat} {Q : Exit → Act → World → Prop} {F : Fr} {w : World} (hp : ∀ e a w, e ≠ .normal → ¬ Q e a w)
    (hsel : Region.noSelect l.toArray = true) (hs : Region.sinkB md l.toArray N = true) (hc : Region.chainB md l.toArray N = true) (hn : N < l.toArray.size) :
    ∀ (rs : List Nat) (listed : Array Bool) (a : Act), a.tmps.size = n → HeadInv md l.toArray N listed → dstsB n (opsAt l rs) = true → readB md l.toArray N rs listed = true → J w →
      (∀ w', J w' → wpStill P l.toArray w' (fun a' => Sm n a' F) (opsAt l rs) a) →
      (∀ a, Sm n a F → HeadInv md l.toArray N (endAt rs listed) → wpJ P md l.toArray J N Q M (endAt rs listed) a w) → wpJ P md l.toArray J N Q (rs.length + M) listed a w
  | [], listed, a, _, inv, _, hB, hJ, h, hr => by
    rw [List.length_nil, Nat.zero_add]
    exact hr a (h w hJ) inv
  | k :: rs, listed, a, ha, inv, hD, hB, hJ, h, hr => by
    simp only [readB, Bool.and_eq_true] at hB
    obtain ⟨⟨⟨hr1, hf⟩, hkn⟩, hB'⟩ := hB
    have hkN : k < N := by rw [← Nat.blt_eq]; exact hkn
    have hk : k < l.length := by simp at hn; omega
    have h0 : l[k]? = some l[k] := List.getElem?_eq_getElem hk
    have h0' : l.toArray[k]? = some l[k] := by simp [h0]
    have e1 : opsAt l (k :: rs) = l[k] :: opsAt l rs := by simp [opsAt, h0]
    have hr' : k ∈ Region.ready md l.toArray listed := by simpa using hr1
    rw [e1] at hD
    simp only [dstsB, Bool.and_eq_true] at hD
    have hst : ∀ w', J w' → ∃ v, YieldsAt P l.toArray w' l[k] v a ∧ wpStill P l.toArray w' (fun a' => Sm n a' F) (opsAt l rs) (a.put l[k].dst v) := fun w' hw' => by
      have := h w' hw'
      rw [e1] at this
      refine yieldsAt_of_stOp h0' ?_
      unfold stOp
      simp only [h0']
      exact this
    have same : ∃ v, ∀ w', J w' → YieldsAt P l.toArray w' l[k] v a ∧ wpStill P l.toArray w' (fun a' => Sm n a' F) (opsAt l rs) (a.put l[k].dst v) := by
      cases hd : l[k].dst with
      | none => rw [hd] at hD; exact absurd hD.1 (by simp)
      | some d =>
        rw [hd] at hD
        simp only [Bool.and_eq_true] at hD
        obtain ⟨⟨hdn, hall⟩, _⟩ := hD
        have hdn : d < n := by rw [← Nat.blt_eq]; exact hdn
        refine ⟨F d, fun w' hw' => ?_⟩
        obtain ⟨v, hv, hv2⟩ := hst w' hw'
        have := still_keep hdn _ _ (fun o ho => by have := List.all_eq_true.1 hall o ho; simpa using this) hv2
        rw [hd] at this
        have e2 : (a.put (some d) v).tmps[d]? = some v := by
          show (a.tmps.setIfInBounds d v)[d]? = some v
          rw [Array.getElem?_setIfInBounds_self_of_lt (by rw [ha]; exact hdn)]
        rw [e2] at this
        cases this
        rw [← hd]
        exact ⟨hv, hv2⟩
    obtain ⟨v, hv⟩ := same
    rw [show (k :: rs).length + M = rs.length + M + 1 by simp; omega]
    exact wpJ_first h0' (Region.noSelect_spec hsel) hs hc hn hkN (fun c a w hq' => absurd hq' (hp _ _ _ (by simp))) _ listed a w inv (Region.free_spec h0' hf) hr' (fun w' hw' => (hv w' hw').1) hJ
      (wpJ_of_read hp hsel hs hc hn rs _ _ (by cases hd : l[k].dst <;> simp [Act.put, ha]) (inv.set hr' hkN) hD.2 hB' hJ (fun w' hw' => (hv w' hw').2) hr)

def resA (C : List Nat) (Rs : Nat → HP) (D : Nat → Bool) : List HP := C.map fun i => if D i = true then Rs i else emp
structure FrA (l : List Oper) (C : List Nat) (F f : Fr) (D : Nat → Bool) (vs : Nat → Value) : Prop where
  out : ∀ s, notDst l C s = true → f s = F s
  undone : ∀ i ∈ C, D i = false → f (dstAt l i) = F (dstAt l i)
  done : ∀ i ∈ C, D i = true → f (dstAt l i) = vs i

theorem ndB_inj : ∀ {C : List Nat} {g : Nat → Nat}, ndB (C.map g) = true → ∀ i ∈ C, ∀ j ∈ C, g i = g j → i = j
  | [], _, _, i, hi, _, _, _ => by cases hi
  | x :: C, g, h, i, hi, j, hj, e => by
    simp only [List.map_cons, ndB, Bool.and_eq_true, Bool.not_eq_true'] at h
    have hx : ∀ y ∈ C, g y ≠ g x := fun y hy e => by
      have : (C.map g).contains (g x) = true := by simp; exact ⟨y, hy, e⟩
      rw [h.1] at this; cases this
    rcases List.mem_cons.1 hi with hi' | hi' <;> rcases List.mem_cons.1 hj with hj' | hj'
    · rw [hi', hj']
    · exact absurd (by rw [← hi']; exact e.symm) (hx j hj')
    · exact absurd (by rw [← hj']; exact e) (hx i hi')
    · exact ndB_inj h.2 i hi' j hj' e
theorem ndB_nd : ∀ {C : List Nat} {g : Nat → Nat}, ndB (C.map g) = true → C.Nodup
  | [], _, _ => by simp
  | x :: C, g, h => by
    simp only [List.map_cons, ndB, Bool.and_eq_true, Bool.not_eq_true'] at h
    refine List.nodup_cons.2 ⟨fun hx => ?_, ndB_nd h.2⟩
    have : (C.map g).contains (g x) = true := by simp; exact ⟨x, hx, rfl⟩
    rw [h.1] at this; cases this
theorem nbeq_ne {i j : Nat} (h : j ≠ i) : Nat.beq j i = false := by
  cases e : Nat.beq j i
  · rfl
  · exact absurd (Nat.eq_of_beq_eq_true e) h
theorem filt_one {D : Nat → Bool} {i : Nat} (hD : D i = false) : ∀ {C : List Nat}, C.Nodup → i ∈ C → (C.filter fun j => !(Nat.beq j i || D j)).length + 1 = (C.filter fun j => !D j).length
  | [], _, h => by cases h
  | x :: C, hn, h => by
    obtain ⟨hx, hn'⟩ := List.nodup_cons.1 hn
    by_cases e : x = i
    · subst e
      have : C.filter (fun j => !(Nat.beq j x || D j)) = C.filter fun j => !D j := List.filter_congr fun j hj => by rw [nbeq_ne (show j ≠ x by rintro rfl; exact hx hj)]; simp
      rw [List.filter_cons_of_neg (by simp), List.filter_cons_of_pos (by simp [hD]), this]; simp
    · have ih := filt_one hD hn' ((List.mem_cons.1 h).resolve_left fun e' => e e'.symm)
      have hb := nbeq_ne e
      cases hd : D x with
      | true => rw [List.filter_cons_of_neg (by simp [hd]), List.filter_cons_of_neg (by simp [hd])]; exact ih
      | false => rw [List.filter_cons_of_pos (by rw [hb, hd]; rfl), List.filter_cons_of_pos (by simp [hd])]; simp only [List.length_cons]; omega
theorem resA_set {C : List Nat} {Rs : Nat → HP} {D : Nat → Bool} {R : HP} {k i : Nat} (hn : C.Nodup) (hk : C[k]? = some i) :
    (resA C Rs D).set k R = resA C (fun j => bif Nat.beq j i then R else Rs j) (fun j => Nat.beq j i || D j) := by
  have hkl := (List.getElem?_eq_some_iff.1 hk).1
  apply List.ext_getElem?
  intro q
  unfold resA
  by_cases e : q = k
  · subst e
    rw [List.getElem?_set_self (by simpa using hkl), List.getElem?_map, hk]; simp
  · rw [List.getElem?_set_ne (Ne.symm e), List.getElem?_map, List.getElem?_map]
    cases hq : C[q]? with
    | none => rfl
    | some y =>
      have hy : y ≠ i := by
        intro e'
        subst e'
        exact e ((List.getElem?_inj (List.getElem?_eq_some_iff.1 hq).1 hn).1 (hq.trans hk.symm))
      have hb := nbeq_ne hy
      show (some (if D y = true then Rs y else emp)) = some (if (Nat.beq y i || D y) = true then (bif Nat.beq y i then R else Rs y) else emp)
      rw [hb]; rfl

theorem fold_up {l : List Oper} (vs : Nat → Value) : ∀ (C : List Nat) (F : Fr), ndB (C.map (dstAt l)) = true →
    (∀ i ∈ C, (C.foldl (fun f i => up f (dstAt l i) (vs i)) F) (dstAt l i) = vs i) ∧ (∀ s, (∀ i ∈ C, dstAt l i ≠ s) → (C.foldl (fun f i => up f (dstAt l i) (vs i)) F) s = F s)
  | [], F, _ => ⟨fun i hi => (by cases hi), fun s _ => rfl⟩
  | x :: C, F, h => by
    have h0 := h
    simp only [List.map_cons, ndB, Bool.and_eq_true, Bool.not_eq_true'] at h
    obtain ⟨h1, h2⟩ := fold_up vs C (up F (dstAt l x) (vs x)) h.2
    refine ⟨fun i hi => ?_, fun s hs => ?_⟩
    · rcases List.mem_cons.1 hi with rfl | hi
      · have := h2 (dstAt l i) fun j hj e => by
          have := ndB_inj h0 j (by simp [hj]) i (by simp) e
          subst this
          have : (C.map (dstAt l)).contains (dstAt l j) = true := by simp; exact ⟨j, hj, rfl⟩
          rw [h.1] at this; cases this
        rw [List.foldl_cons, this]
        unfold up; simp
      · exact h1 i hi
    · rw [List.foldl_cons, h2 s fun i hi => hs i (by simp [hi])]
      have := hs x (by simp)
      unfold up
      cases e : Nat.beq s (dstAt l x)
      · rfl
      · exact absurd (Nat.eq_of_beq_eq_true e).symm this

theorem notDst_iff {l : List Oper} {C : List Nat} {s : Nat} : notDst l C s = true ↔ ∀ i ∈ C, dstAt l i ≠ s := by
  unfold notDst
  rw [List.all_eq_true]
  refine forall_congr' fun i => forall_congr' fun _ => ?_
  rw [Bool.not_eq_true', Bool.eq_false_iff]
  exact not_congr ⟨Nat.eq_of_beq_eq_true, fun e => by rw [e]; exact Nat.beq_refl s⟩

theorem anyA {w0 : World} {f0 : FP} {L0 : List HP} {N : Nat} {C : List Nat} {F : Fr} {Ok : Nat → Value → HP → Prop} {QC : Exit → Fr → World → Prop}
    (hs : Region.sinkB md l.toArray N = true) (hc : Region.chainB md l.toArray N = true) (hn : N < l.length) (hback : backB md l = true) (hnd : ndB (C.map (dstAt l)) = true) (hC : ∀ i ∈ C, i < N)
    (hseq : seqAt md l.toArray ((List.range (l.length - N)).map (N + ·)) (Array.replicate N true ++ Array.replicate (l.length - N) false) = true)
    (hop : ∀ i ∈ C, ∀ (f : Fr) (w' : World) (L' : List HP), (∀ s, notDst l C s = true → f s = F s) → St w0 f0 (L0 ++ L') w' → wO P l.toArray n false (opsAt l [i]) (fun f' w'' => ∃ v R, Ok i v R ∧ f' = up f (dstAt l i) v ∧ St w0 f0 (L0 ++ L' ++ [R]) w'') f w')
    (htail : ∀ (vs : Nat → Value) (Rs : Nat → HP) w', (∀ i ∈ C, Ok i (vs i) (Rs i)) → St w0 f0 (L0 ++ C.map Rs) w' → wO P l.toArray n false (l.drop N) (fun f' w' => QC .normal f' w') (C.foldl (fun f i => up f (dstAt l i) (vs i)) F) w') :
    ∀ (m : Nat) (D : Nat → Bool) (vs : Nat → Value) (Rs : Nat → HP) (listed : Array Bool) (a : Act) (w : World) (f : Fr), (C.filter fun i => !D i).length = m → HeadInv md l.toArray N listed → (∀ i, i < N → (listed.getD i true = false ↔ (i ∈ C ∧ D i = false))) →
      FrA l C F f D vs → Sm n a f → (∀ i ∈ C, D i = true → Ok i (vs i) (Rs i)) → St w0 f0 (L0 ++ resA C Rs D) w →
      wpJ P md l.toArray (fun w' => ∃ L', St w0 f0 (L0 ++ L') w') N (fun e a' w' => e = .normal ∧ ∃ f', Sm n a' f' ∧ QC .normal f' w') (m + (l.length - N)) listed a w := by
  intro m
  induction m with
  | zero =>
    intro D vs Rs listed a w f hm inv hli hfr hsm hok hst
    have hall : ∀ i ∈ C, D i = true := fun i hi => by
      cases h : D i with
      | true => rfl
      | false =>
        have : i ∈ C.filter fun i => !D i := List.mem_filter.2 ⟨hi, by simp [h]⟩
        rw [List.eq_nil_of_length_eq_zero hm] at this; cases this
    have hlisted : listed = Array.replicate N true ++ Array.replicate (l.length - N) false := by
      have hsz := inv.size
      simp only [List.size_toArray] at hsz
      apply Array.ext
      · simp; omega
      · intro i h1 h2
        by_cases hi : i < N
        · rw [Array.getElem_append_left (by simpa using hi), Array.getElem_replicate]
          have := (hli i hi)
          have hg : listed.getD i true = listed[i] := by simp [h1]
          rw [hg] at this
          cases e : listed[i] with
          | true => rfl
          | false => have := this.1 e; rw [hall i this.1] at this; cases this.2
        · rw [Array.getElem_append_right (by simp; omega), Array.getElem_replicate]
          have := inv.tail i (by omega) (by simp; omega)
          simpa [h1] using this
    subst hlisted
    have hf : f = C.foldl (fun f i => up f (dstAt l i) (vs i)) F := by
      obtain ⟨h1, h2⟩ := fold_up vs C F hnd
      funext s
      by_cases h : ∃ i ∈ C, dstAt l i = s
      · obtain ⟨i, hi, rfl⟩ := h
        rw [h1 i hi, hfr.done i hi (hall i hi)]
      · have h' : ∀ i ∈ C, dstAt l i ≠ s := fun i hi e => h ⟨i, hi, e⟩
        rw [h2 s h', hfr.out s (notDst_iff.2 h')]
    have hres : resA C Rs D = C.map Rs := List.map_congr_left fun i hi => by rw [if_pos (hall i hi)]
    rw [hres] at hst
    have ht := htail vs Rs w (fun i hi => hok i hi (hall i hi)) hst
    rw [← hf] at ht
    have h2 := wO_run ht hsm
    rw [← opsAt_drop l (l.length - N) N (by omega)] at h2
    have := wpJ_of_seq.wpJ_of_seqT (P := P) (n := n) (J := fun w' => ∃ L', St w0 f0 (L0 ++ L') w') (N := N) (md := md) (l := l) (Q := fun e a' w' => e = .normal ∧ ∃ f', Sm n a' f' ∧ QC .normal f' w') (Qf := fun f' w' => QC .normal f' w')
      (fun f a w hs q => ⟨rfl, f, hs, q⟩) ((List.range (l.length - N)).map (N + ·)) _ a w (fun k hk => by
        obtain ⟨i, hi, rfl⟩ := List.mem_map.1 hk
        have := List.mem_range.1 hi
        omega) hseq h2
    simpa using this
  | succ m ih =>
    intro D vs Rs listed a w f hm inv hli hfr hsm hok hst
    have hsome : ∃ i, i < N ∧ listed.getD i true = false := by
      cases h : C.filter (fun i => !D i) with
      | nil => rw [h] at hm; simp at hm
      | cons i _ =>
        have : i ∈ C.filter fun i => !D i := by rw [h]; simp
        obtain ⟨h1, h2⟩ := List.mem_filter.1 this
        exact ⟨i, hC i h1, (hli i (hC i h1)).2 ⟨h1, by simpa using h2⟩⟩
    obtain ⟨i0, hi0, hun0⟩ := hsome
    have hready : Region.ready md l.toArray listed ≠ [] := by
      have key : ∀ k, k ≤ N → (∃ i, i < k ∧ listed.getD i true = false) → ∃ i, i ∈ Region.ready md l.toArray listed := by
        intro k
        induction k with
        | zero => rintro _ ⟨i, hi, _⟩; omega
        | succ k ihk =>
          rintro hk ⟨i, hi, hun⟩
          by_cases hx : ∃ j, j < k ∧ listed.getD j true = false
          · exact ihk (by omega) hx
          · have hik : i = k := by
              rcases Nat.lt_or_ge i k with h | h
              · exact absurd ⟨i, h, hun⟩ hx
              · omega
            subst hik
            have hil : i < l.length := by omega
            refine ⟨i, mem_ready.2 ⟨hun, l[i], by simp [hil], fun e he hb => ?_⟩⟩
            have hb1 := List.all_eq_true.1 hback i (List.mem_range.2 hil)
            rw [List.getElem?_eq_getElem hil] at hb1
            have hb2 := Array.all_eq_true_iff_forall_mem.1 hb1 e he
            rw [hb, Bool.not_true, Bool.false_or, Nat.blt_eq] at hb2
            have hno : ¬ listed.getD e.on true = false := fun h => hx ⟨e.on, hb2, h⟩
            have hon : e.on < listed.size := by rw [inv.size]; simp; omega
            simp [hon] at hno ⊢
            exact hno
      obtain ⟨i, hi⟩ := key N (Nat.le_refl _) ⟨i0, hi0, hun0⟩
      intro h; rw [h] at hi; cases hi
    rw [show m + 1 + (l.length - N) = m + (l.length - N) + 1 by omega]
    refine ⟨fun h => absurd h hready, fun i hi => ?_⟩
    have hiN : i < N := by
      rcases Nat.lt_or_ge i N with h | h
      · exact h
      · exact absurd hi (tail_waits hs hc (by simpa using hn) inv _ i0 rfl hi0 hun0 i h)
    obtain ⟨hiC, hiD⟩ := (hli i hiN).1 (mem_ready.1 hi).1
    have hil : i < l.length := by omega
    have h0 : l[i]? = some l[i] := List.getElem?_eq_getElem hil
    have e1 : opsAt l [i] = [l[i]] := by simp [opsAt, h0]
    have h2 := wO_run (hop i hiC f w _ hfr.out hst) hsm
    rw [e1] at h2
    let QQ : Exit → Act → World → Prop := fun e a' w' => e = .normal ∧ ∃ f', Sm n a' f' ∧ ∃ v R, Ok i v R ∧ f' = up f (dstAt l i) v ∧ St w0 f0 (L0 ++ resA C Rs D ++ [R]) w'
    have hw : wpOp P l.toArray QQ i (wpList P l.toArray QQ []) a w := by
      unfold wpOp
      simp only [List.getElem?_toArray, h0]
      exact h2
    refine wpJ_of_seq.wpOp_mono' (fun a' w' h' => ?_) (fun e a w he h' => absurd h'.1 he) hw
    obtain ⟨_, f', hf', v, R, hokv, rfl, hst'⟩ := h'
    refine ⟨fun _ => ⟨_, by rw [List.append_assoc] at hst'; exact hst'⟩, ?_⟩
    have hne : ∀ j ∈ C, j ≠ i → dstAt l j ≠ dstAt l i := fun j hj hji e => hji (ndB_inj hnd j hj i hiC e)
    refine ih (fun j => Nat.beq j i || D j) (fun j => bif Nat.beq j i then v else vs j) (fun j => bif Nat.beq j i then R else Rs j) _ a' w' _ ?_ (inv.set hi hiN) ?_ ?_ hf' ?_ ?_
    · have := filt_one hiD (ndB_nd hnd) hiC
      omega
    · intro j hj
      by_cases hji : j = i
      · subst hji
        have : j < listed.size := by rw [inv.size]; simp; omega
        simp [this]
      · rw [getD_set_ne true (Ne.symm hji), hli j hj]
        have : Nat.beq j i = false := by cases h : Nat.beq j i; rfl; exact absurd (Nat.eq_of_beq_eq_true h) hji
        simp [this]
    · refine ⟨fun s hs' => ?_, fun j hj hDj => ?_, fun j hj hDj => ?_⟩
      · have := notDst_iff.1 hs' i hiC
        show up f (dstAt l i) v s = F s
        unfold up
        cases e : Nat.beq s (dstAt l i)
        · exact hfr.out s hs'
        · exact absurd (Nat.eq_of_beq_eq_true e).symm this
      · simp only [Bool.or_eq_false_iff] at hDj
        have hji : j ≠ i := fun e => by subst e; simp at hDj
        show up f (dstAt l i) v (dstAt l j) = _
        unfold up
        cases e : Nat.beq (dstAt l j) (dstAt l i)
        · exact hfr.undone j hj hDj.2
        · exact absurd (Nat.eq_of_beq_eq_true e) (hne j hj hji)
      · show up f (dstAt l i) v (dstAt l j) = _
        by_cases hji : j = i
        · subst hji; unfold up; simp
        · have hb : Nat.beq j i = false := by cases h : Nat.beq j i; rfl; exact absurd (Nat.eq_of_beq_eq_true h) hji
          simp only [hb, Bool.false_or] at hDj
          rw [hb]
          unfold up
          cases e : Nat.beq (dstAt l j) (dstAt l i)
          · exact hfr.done j hj hDj
          · exact absurd (Nat.eq_of_beq_eq_true e) (hne j hj hji)
    · intro j hj hDj
      by_cases hji : j = i
      · subst hji; simp; exact hokv
      · have hb : Nat.beq j i = false := by cases h : Nat.beq j i; rfl; exact absurd (Nat.eq_of_beq_eq_true h) hji
        simp only [hb, Bool.false_or] at hDj
        simp only [hb, cond_false]
        exact hok j hj hDj
    · obtain ⟨k, hk⟩ := List.getElem?_of_mem hiC
      have hkl := (List.getElem?_eq_some_iff.1 hk).1
      have h3 := hst'.fill (L0.length + k) (by
        rw [List.getElem?_append_right (by omega), Nat.add_sub_cancel_left]
        unfold resA
        rw [List.getElem?_map, hk]; simp [hiD])
      rw [List.set_append_right _ _ (by omega), Nat.add_sub_cancel_left, resA_set (ndB_nd hnd) hk] at h3
      exact h3

/-- What reads (rs); what lays, in whatever order (C); and the rest from N on. -/
theorem wC_alloc {w w0 : World} {f0 : FP} {L0 : List HP} {f : Fr} {QC : Exit → Fr → World → Prop} {id : Nat} (Ok : Nat → Value → HP → Prop) (N : Nat) (rs C : List Nat) (F : Fr) (hm : P.follows .mixedOrders = true) (hB : mixA .any n l N rs C = true) (H : St w0 f0 L0 w)
    (hread : ∀ w' L', St w0 f0 (L0 ++ L') w' → wO P l.toArray n true (opsAt l rs) (fun f' _ => f' = F) f w')
    (hop : ∀ i ∈ C, ∀ (f : Fr) (w' : World) (L' : List HP), (∀ s, notDst l C s = true → f s = F s) → St w0 f0 (L0 ++ L') w' → wO P l.toArray n false (opsAt l [i]) (fun f' w'' => ∃ v R, Ok i v R ∧ f' = up f (dstAt l i) v ∧ St w0 f0 (L0 ++ L' ++ [R]) w'') f w')
    (htail : ∀ (vs : Nat → Value) (Rs : Nat → HP) w', (∀ i ∈ C, Ok i (vs i) (Rs i)) → St w0 f0 (L0 ++ C.map Rs) w' → wO P l.toArray n false (l.drop N) (fun f' w' => QC .normal f' w') (C.foldl (fun f i => up f (dstAt l i) (vs i)) F) w') :
    wC P n (.region id l.toArray true) QC f w := by
  unfold wC
  intro a ha
  simp only [mixA, Bool.and_eq_true] at hB
  obtain ⟨⟨⟨⟨⟨⟨⟨⟨⟨⟨⟨⟨hsel, hn⟩, hs⟩, hc⟩, hD⟩, hread'⟩, hback⟩, hnd⟩, hCN⟩, hcov⟩, hdis⟩, hlen⟩, hseq⟩ := hB
  have hlen := Nat.eq_of_beq_eq_true hlen
  have hn : N < l.length := by rw [← Nat.blt_eq]; exact hn
  have hCN : ∀ i ∈ C, i < N := fun i hi => by rw [← Nat.blt_eq]; exact List.all_eq_true.1 hCN i hi
  have hC0 : (C.filter fun i => !false).length = C.length := by simp
  refine wp_mono (Q := fun e a' w' => e = .normal ∧ ∃ f', Sm n a' f' ∧ QC .normal f' w') ?_ (by rintro e a' w' ⟨rfl, h⟩; exact h)
  refine wp_region_any hm (wpAny_of_J (J := fun w' => ∃ L', St w0 f0 (L0 ++ L') w') (n := N) _ _ _ _ ?_)
  have H' := H.idle (Step.drew w _)
  have inv0 : HeadInv .any l.toArray N (Array.replicate l.toArray.size false) :=
    ⟨by simp, fun j oj _ hl => (by rw [getD_replicate_false] at hl; cases hl), fun t _ ht => getD_in (by simpa using ht) (getD_replicate_false _ _)⟩
  have hend : ∀ (rs : List Nat) (listed : Array Bool) (i : Nat), i < listed.size → ((endAt rs listed).getD i true = false ↔ (listed.getD i true = false ∧ i ∉ rs)) := by
    intro rs
    induction rs with
    | nil => intro listed i _; simp [endAt]
    | cons k rs ih =>
      intro listed i hi
      show (endAt rs (listed.setIfInBounds k true)).getD i true = false ↔ _
      rw [ih _ i (by simpa using hi)]
      by_cases hik : k = i
      · subst hik; simp [hi]
      · rw [getD_set_ne true hik]; simp [Ne.symm hik]
  have := wpJ_of_read (n := n) (w := w.drew) (P := P) (J := fun w' => ∃ L', St w0 f0 (L0 ++ L') w') (N := N) (md := .any) (l := l) (M := C.length + (l.length - N)) (Q := fun e a' w' => e = .normal ∧ ∃ f', Sm n a' f' ∧ QC .normal f' w') (F := F)
    (fun e a w he h => he h.1) hsel hs hc (by simpa using hn) rs (Array.replicate l.toArray.size false) a ha.size inv0 hD hread' ⟨[], by simpa using H'⟩
    (fun w' ⟨L', hw'⟩ => wC_mix.stillMono (fun a' h => by obtain ⟨f', h1, rfl⟩ := h; exact h1) (wO_still (hread w' L' hw') ha))
    (fun a ha inv => by
      have e0 : resA C (fun _ => emp) (fun _ => false) = C.map fun _ => emp := List.map_congr_left fun i _ => by simp
      have := anyA (P := P) (n := n) (md := .any) (l := l) (Ok := Ok) (QC := QC) hs hc hn hback hnd hCN hseq hop htail C.length (fun _ => false) (fun _ => undef) (fun _ => emp) _ a w.drew F (by simp) inv (fun i hi => by
        rw [hend rs _ i (by simp; omega)]
        have h1 : (Array.replicate l.toArray.size false).getD i true = false := getD_in (by simp; omega) (getD_replicate_false _ _)
        simp only [h1, true_and, and_true]
        have hc1 := List.all_eq_true.1 hcov i (List.mem_range.2 hi)
        constructor
        · intro h2; simp at hc1; exact hc1.resolve_left h2
        · intro h2 h3
          have := List.all_eq_true.1 hdis i h2
          simp at this; exact this h3)
        ⟨fun _ _ => rfl, fun _ _ _ => rfl, fun _ _ h => by cases h⟩ ha (fun _ _ h => by cases h) (by rw [e0]; exact H'.emps C)
      exact this)
  have hlen : rs.length + (C.length + (l.length - N)) = l.toArray.size := by simp; omega
  rw [hlen] at this
  exact this
end
end
section
open Go Go.RowKit

section
variable {P : Program} {n : Nat} {md : Bool} {ops : Array Oper} {rest : List Oper} {f : Fr} {w w0 : World} {Q : Fr → World → Prop} {f0 : FP} {L : List HP}
variable {d : Tmp} {x y z : Operand} {ty t : TypeId} {pos : String} {after : Array Edge} {α : Type} {enc : α → Value} {e e' : TypeId} {hs : List (Hd α)} {q : Nat} {hd : Hd α}

/-- One whose test was itself not wanted. -/
theorem o_offU {m : Bool} {j : Nat} {want : Bool} {dst : Option Tmp} {op : Op} {type : TypeId} {d : Nat} (hj : (ops[j]?).bind (·.dst) = some d) (hb : f d = undef) (hd : dOk n dst = true) (hdn : Nat.blt d n = true)
    (h : wO P ops n m rest Q (upO f dst undef) w) : wO P ops n m (⟨dst, op, type, pos, after, some (j, want)⟩ :: rest) Q f w := by
  unfold wO at h ⊢
  intro a ha
  have hdn : d < n := by rw [← Nat.blt_eq]; exact hdn
  have hy : yielded ops a.tmps j = none := by
    unfold yielded
    rw [hj]
    simp [ha.at_ d hdn, hb, undef]
  have w1 : Region.wanted (⟨dst, op, type, pos, after, some (j, want)⟩ : Oper) (yielded ops a.tmps) = false := by simp [Region.wanted, hy]
  have h1 := h _ (ha.put hd undef)
  cases m with
  | false =>
    change wpList P ops _ _ a w
    unfold wpList
    rw [if_neg (by rw [w1]; simp)]
    exact h1
  | true =>
    change wpStill P ops w _ _ a
    unfold wpStill
    rw [if_neg (by rw [w1]; simp)]
    exact h1

theorem St.inner (H : St w0 f0 L w) (i : Nat) (hi : L[i]? = some (star (hs.map (hrow enc e)))) (hq : hs[q]? = some hd) : ∃ g, (hrow enc e hd).sat w g := by
  have := H.pull i hi q (R := hrow enc e hd) (by rw [List.getElem?_map, hq]; rfl)
  obtain ⟨f1, h, _⟩ := this.focus L.length (A := hrow enc e hd) (by rw [List.getElem?_append_right (by simp)]; simp)
  exact ⟨f1, h⟩

theorem o_idxM {zv : Value} {bytes : Nat} (ht : P.underlying t = some (.slice e')) (hI : TI P e' zv 1 bytes) (H : St w0 f0 L w) (i : Nat) (hi : L[i]? = some (star (hs.map (hrow enc e)))) (hq : hs[q]? = some hd) {k : IntKind} {j : Int} (hx : ev f x = hdv hd) (hy : ev f y = .int k j) (h0 : 0 ≤ j) (h1 : j < hd.2.length)
    (h : ∀ a, hd.1.1 = some a → wO P ops n md rest Q (up f d (.pointer (some (a.add (j.toNat * 1))))) w) (hdd : Nat.blt d n = true := by rfl) : wO P ops n md (⟨some d, .indexAddr t x y, ty, pos, after, none⟩ :: rest) Q f w := by
  obtain ⟨g, hg⟩ := H.inner i hi hq
  obtain ⟨a, ha, _⟩ := row.adr hg (by omega)
  exact o_idx ht hI.size (by rw [hx]; unfold hdv; rw [ha]) hy h0 h1 (h a ha) hdd

theorem o_ldM1 {a : Addr} {v : α} (hT : T1 P t) (H : St w0 f0 L w) (i : Nat) (hi : L[i]? = some (star (hs.map (hrow enc e)))) (hq : hs[q]? = some hd) (ha : hd.1.1 = some a) (j : Nat) (hx : ev f x = .pointer (some (a.add (j * 1)))) (hv : hd.2[j]? = some v)
    (h : wO P ops n md rest Q (up f d (enc v)) w) (hdd : Nat.blt d n = true := by rfl) : wO P ops n md (⟨some d, .load t x, ty, pos, after, none⟩ :: rest) Q f w := by
  obtain ⟨g, hg⟩ := H.inner i hi hq
  unfold hrow at hg
  rw [ha] at hg
  exact o_load hx (ld1 hT (row.cell hg (by rw [Nat.mul_one, List.getElem?_map, hv]; rfl))) h hdd

theorem o_stM {a : Addr} {v : α} (h1c : (enc v).cells = #[enc v]) (h1o : (enc v).oneCell' = true) (hz : ∀ w, (sizeOf t).run P w = .ok 1 w) (H : St w0 f0 L w) (i : Nat) (hi : L[i]? = some (star (hs.map (hrow enc e)))) (hq : hs[q]? = some hd) (ha : hd.1.1 = some a) (j : Nat) (hx : ev f x = .pointer (some (a.add (j * 1)))) (hy : ev f y = enc v)
    (hj : j < hd.2.length) (h : ∀ w', St w0 f0 (L.set i (star ((hs.set q (hd.1, hd.2.set j v)).map (hrow enc e)))) w' → wO P ops n false rest Q f w') :
    wO P ops n false (⟨none, .store t x y, ty, pos, after, none⟩ :: rest) Q f w := by
  have hql := (List.getElem?_eq_some_iff.1 hq).1
  have H2 := H.pull i hi q (R := hrow enc e hd) (by rw [List.getElem?_map, hq]; rfl)
  obtain ⟨f1, hA, _, hB⟩ := H2.focus L.length (A := hrow enc e hd) (by rw [List.getElem?_append_right (by simp)]; simp)
  have hA' := hA
  unfold hrow at hA'
  rw [ha] at hA'
  obtain ⟨w', hrun, hs', hst⟩ := row.put (P := P) hA' (j * 1) [enc v] (by simp; omega) (by simp [h1o])
  have e1 : lay (hd.2.map enc) (j * 1) [enc v] = (hd.2.set j v).map enc := by rw [Nat.mul_one, lay_one _ _ _ (by simpa using hj), List.map_set]
  rw [e1] at hs'
  have hs2 : (hrow enc e (hd.1, hd.2.set j v)).sat w' f1 := by
    unfold hrow
    simp only [List.length_set]
    rw [ha]; exact hs'
  have H3 := hB w' _ f1 hst hs2 fun b hb => .inl hb
  rw [List.set_append_right _ _ (by simp)] at H3
  simp only [List.length_set, Nat.sub_self, List.set_cons_zero] at H3
  have hil := (List.getElem?_eq_some_iff.1 hi).1
  have H4 := H3.push i q (Ls := hs.map (hrow enc e)) (by rw [List.getElem?_set_self hil]) (by simpa using hql)
  rw [List.set_set, ← List.map_set] at H4
  refine o_skp (w' := w') rfl rfl ?_ (h w' H4)
  rw [Nat.mul_one] at hrun hx
  simp [execOp, hx, hy, Instr.storeAt, Instr.sureAddr, storeVar, hz, h1c, hrun]
theorem hdv_set {hs : List (Hd α)} {q j : Nat} {hd : Hd α} {v : α} (hq : hs[q]? = some hd) : (hs.set q (hd.1, hd.2.set j v)).map hdv = hs.map hdv := by
  apply List.ext_getElem?
  intro k
  rw [List.getElem?_map, List.getElem?_map]
  by_cases e : k = q
  · subst e
    rw [List.getElem?_set_self (List.getElem?_eq_some_iff.1 hq).1, hq]; simp [hdv]
  · rw [List.getElem?_set_ne (Ne.symm e)]
end
end
end Go.Proofs.Ytoknjpmlloikhaa
