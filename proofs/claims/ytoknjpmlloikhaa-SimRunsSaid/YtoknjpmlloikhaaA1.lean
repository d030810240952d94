/- Goals that hold their pieces: walks without naming worlds. -/
import Derived.Test.YtoknjpmlloikhaaK1
namespace Go.Proofs.Ytoknjpmlloikhaa
set_option linter.unusedVariables false
set_option linter.unusedSimpArgs false
open Go Go.RowKit

section
variable (P : Program) (n : Nat) (w0 : World) (f0 : FP)
def sE (QC : Exit → Fr → World → Prop) (e : Exit) (f : Fr) (L : List HP) : Prop := ∀ w, St w0 f0 L w → QC e f w
def sO (ops : Array Oper) (m : Bool) (l : List Oper) (QC : Exit → Fr → World → Prop) (f : Fr) (L : List HP) : Prop := ∀ w, St w0 f0 L w → wO P ops n m l (fun f' w' => QC .normal f' w') f w
def sC (c : Code) (QC : Exit → Fr → World → Prop) (f : Fr) (L : List HP) : Prop := ∀ w, St w0 f0 L w → wC P n c QC f w
end

def sqS (P : Program) (n : Nat) (c2 : Code) (QC : Exit → Fr → World → Prop) : Exit → Fr → World → Prop := sq P n c2 QC
def bkS (id : Nat) (QC : Exit → Fr → World → Prop) : Exit → Fr → World → Prop := bk id QC
section
variable {P : Program} {n : Nat} {w0 : World} {f0 : FP} {ops : Array Oper} {m : Bool} {rest : List Oper} {QC : Exit → Fr → World → Prop} {f : Fr} {L L' : List HP} {c c1 c2 : Code} {id : Nat} {x y z : Operand} {e : Exit}

/-! ### the frame of the walk -/
theorem s_nil (h : sE w0 f0 QC .normal f L) : sO P n w0 f0 ops m [] QC f L := fun w H => o_nil (h w H)
theorem s_region {l : List Oper} (h : sO P n w0 f0 l.toArray false l QC f L) : sC P n w0 f0 (.region id l.toArray false) QC f L := fun w H => wC_region (h w H)
theorem s_still {l : List Oper} (hm : P.follows .mixedOrders = true) (hB : Region.lexB .any l.toArray = true) (h : sO P n w0 f0 l.toArray true l QC f L) : sC P n w0 f0 (.region id l.toArray true) QC f L :=
  fun w H => wC_still hm hB (h _ (H.idle (Step.drew w _)))
def pureOp (o : Oper) : Bool := match o.op with
  | .store _ _ _ => false
  | .alloc _ => false
  | .box _ _ => false
  | .mapUpdate _ _ _ _ => false
  | .insert _ _ _ _ => false
  | .makeSlice _ _ _ => false
  | .buildSlice _ _ _ => false
  | .makeMap _ _ => false
  | .range _ _ => false
  | .next _ _ => false
  | .call c => match c.callee with
    | .builtin .len => true
    | .builtin .max => true
    | .builtin .min => true
    | _ => false
  | _ => true
theorem s_stillP {l : List Oper} (hm : P.follows .mixedOrders = true) (hp : (l.all pureOp) = true) (hB : Region.lexB .any l.toArray = true) (h : sO P n w0 f0 l.toArray true l QC f L) : sC P n w0 f0 (.region id l.toArray true) QC f L := s_still hm hB h
theorem s_seq (h : sC P n w0 f0 c1 (sqS P n c2 QC) f L) : sC P n w0 f0 (.seq c1 c2) QC f L := fun w H => wC_seq (h w H)
theorem s_block (h : sC P n w0 f0 c (bkS id QC) f L) : sC P n w0 f0 (.block id c) QC f L := fun w H => wC_block (h w H)
theorem s_skip (h : sE w0 f0 QC .normal f L) : sC P n w0 f0 .skip QC f L := fun w H => wC_skip (h w H)
theorem s_ret (h : sE w0 f0 QC .ret f L) : sC P n w0 f0 .ret QC f L := fun w H => wC_ret (h w H)
theorem s_exit (h : sE w0 f0 QC (.exit id) f L) : sC P n w0 f0 (.exit id) QC f L := fun w H => wC_exit (h w H)
theorem e_seq (h : sC P n w0 f0 c2 QC f L) : sE w0 f0 (sqS P n c2 QC) .normal f L := h
theorem e_seq_ret (h : sE w0 f0 QC .ret f L) : sE w0 f0 (sqS P n c2 QC) .ret f L := h
theorem e_seq_exit (h : sE w0 f0 QC (.exit id) f L) : sE w0 f0 (sqS P n c2 QC) (.exit id) f L := h
theorem e_bk (h : sE w0 f0 QC .normal f L) : sE w0 f0 (bkS id QC) .normal f L := h
theorem e_bk_ret (h : sE w0 f0 QC .ret f L) : sE w0 f0 (bkS id QC) .ret f L := h
theorem e_bk_exit (h : sE w0 f0 QC .normal f L) : sE w0 f0 (bkS id QC) (.exit id) f L := fun w H => by
  show bif Nat.beq id id then _ else _
  rw [Nat.beq_refl]; exact h w H
theorem e_bk_out {id' : Nat} (hne : Nat.beq id' id = false) (h : sE w0 f0 QC (.exit id') f L) : sE w0 f0 (bkS id QC) (.exit id') f L := fun w H => by
  show bif Nat.beq id' id then _ else _
  rw [hne]; exact h w H
theorem s_if {b : Bool} (hx : ev f x = .bool b) (ht : b = true → sC P n w0 f0 c1 QC f L) (hf : b = false → sC P n w0 f0 c2 QC f L) : sC P n w0 f0 (.cond x c1 c2) QC f L := by
  intro w H
  cases b with
  | true => exact wC_if true hx (ht rfl w H)
  | false => exact wC_if false hx (hf rfl w H)
theorem s_ift (hx : ev f x = .bool true) (h : sC P n w0 f0 c1 QC f L) : sC P n w0 f0 (.cond x c1 c2) QC f L := fun w H => wC_if true hx (h w H)
theorem s_iff (hx : ev f x = .bool false) (h : sC P n w0 f0 c2 QC f L) : sC P n w0 f0 (.cond x c1 c2) QC f L := fun w H => wC_if false hx (h w H)
theorem s_ifd {p : Prop} [Decidable p] (hx : ev f x = .bool (decide p)) (ht : p → sC P n w0 f0 c1 QC f L) (hf : ¬ p → sC P n w0 f0 c2 QC f L) : sC P n w0 f0 (.cond x c1 c2) QC f L :=
  s_if hx (fun h => ht (of_decide_eq_true h)) fun h => hf (of_decide_eq_false h)
theorem s_ifn {p : Prop} [Decidable p] (hx : ev f x = .bool (!decide p)) (ht : ¬ p → sC P n w0 f0 c1 QC f L) (hf : p → sC P n w0 f0 c2 QC f L) : sC P n w0 f0 (.cond x c1 c2) QC f L :=
  s_if hx (fun h => ht (by simpa using h)) fun h => hf (by simpa using h)

/-! ### loops and cuts -/
variable {σ : Type}
def lpS (w0 : World) (f0 : FP) (QC : Exit → Fr → World → Prop) (S : σ → List (Nat × Value)) (I : σ → List HP) (J : σ → Prop) (μ : σ → Nat) (s : σ) : Exit → Fr → World → Prop
  | .normal, f', w' => ∃ s', fits f' (S s') ∧ (J s' ∧ St w0 f0 (I s') w') ∧ μ s' < μ s
  | e, f', w' => QC e f' w'
def ctS (w0 : World) (f0 : FP) (QC : Exit → Fr → World → Prop) (S : σ → List (Nat × Value)) (I : σ → List HP) (J : σ → Prop) : Exit → Fr → World → Prop
  | .normal, f', w' => ∃ s, fits f' (S s) ∧ J s ∧ St w0 f0 (I s) w'
  | e, f', w' => QC e f' w'
def PSub (w0 : World) (f0 : FP) (L L' : List HP) : Prop := ∀ w, St w0 f0 L w → St w0 f0 L' w
theorem PSub.refl {L : List HP} : PSub w0 f0 L L := fun _ h => h

theorem s_loop (S : σ → List (Nat × Value)) (I : σ → List HP) (J : σ → Prop) (μ : σ → Nat) (s0 : σ) (h0 : fits f (S s0)) (hJ : J s0) (hL : PSub w0 f0 L (I s0))
    (body : ∀ f s, J s → sC P n w0 f0 c (lpS w0 f0 QC S I J μ s) (ups f (S s)) (I s)) : sC P n w0 f0 (.loop c) QC f L := by
  intro w H
  refine wC_loop S (fun s w => J s ∧ St w0 f0 (I s) w) μ s0 h0 ⟨hJ, hL w H⟩ ?_
  rintro f s w ⟨hj, H⟩
  refine wC_mono (body f s hj w H) ?_
  intro e f' w' q
  cases e <;> exact q
theorem e_lp {S : σ → List (Nat × Value)} {I : σ → List HP} {J : σ → Prop} {μ : σ → Nat} {s : σ} (s' : σ) (hf : fits f (S s')) (hJ : J s') (hm : μ s' < μ s) (hL : PSub w0 f0 L (I s')) : sE w0 f0 (lpS w0 f0 QC S I J μ s) .normal f L :=
  fun w H => ⟨s', hf, ⟨hJ, hL w H⟩, hm⟩
theorem e_lp_ret {S : σ → List (Nat × Value)} {I : σ → List HP} {J : σ → Prop} {μ : σ → Nat} {s : σ} (h : sE w0 f0 QC .ret f L) : sE w0 f0 (lpS w0 f0 QC S I J μ s) .ret f L := h
theorem e_lp_exit {S : σ → List (Nat × Value)} {I : σ → List HP} {J : σ → Prop} {μ : σ → Nat} {s : σ} (h : sE w0 f0 QC (.exit id) f L) : sE w0 f0 (lpS w0 f0 QC S I J μ s) (.exit id) f L := h
/-- The first part, cut off: what is left is told by S, I, J. -/
theorem s_cut (S : σ → List (Nat × Value)) (I : σ → List HP) (J : σ → Prop) (h1 : sC P n w0 f0 c1 (ctS w0 f0 QC S I J) f L)
    (h2 : ∀ f s, J s → sC P n w0 f0 c2 QC (ups f (S s)) (I s)) : sC P n w0 f0 (.seq c1 c2) QC f L := by
  intro w H
  refine wC_cut S (fun s w => J s ∧ St w0 f0 (I s) w) (wC_mono (h1 w H) ?_) ?_
  · intro e f' w' q
    cases e <;> exact q
  · rintro f s w ⟨hj, H⟩
    exact h2 f s hj w H
theorem e_ct {S : σ → List (Nat × Value)} {I : σ → List HP} {J : σ → Prop} (s' : σ) (hf : fits f (S s')) (hJ : J s') (hL : PSub w0 f0 L (I s')) : sE w0 f0 (ctS w0 f0 QC S I J) .normal f L :=
  fun w H => ⟨s', hf, hJ, hL w H⟩
theorem e_ct_ret {S : σ → List (Nat × Value)} {I : σ → List HP} {J : σ → Prop} (h : sE w0 f0 QC .ret f L) : sE w0 f0 (ctS w0 f0 QC S I J) .ret f L := h
theorem e_ct_exit {S : σ → List (Nat × Value)} {I : σ → List HP} {J : σ → Prop} (h : sE w0 f0 QC (.exit id) f L) : sE w0 f0 (ctS w0 f0 QC S I J) (.exit id) f L := h
/-- Pieces let go, or turned, in the middle of the walk. -/
theorem s_sub (hL : PSub w0 f0 L L') (h : sC P n w0 f0 c QC f L') : sC P n w0 f0 c QC f L := fun w H => h w (hL w H)
theorem so_sub {l : List Oper} (hL : PSub w0 f0 L L') (h : sO P n w0 f0 ops m l QC f L') : sO P n w0 f0 ops m l QC f L := fun w H => h w (hL w H)
theorem se_sub (hL : PSub w0 f0 L L') (h : sE w0 f0 QC e f L') : sE w0 f0 QC e f L := fun w H => h w (hL w H)

/-! ### permutations and dropping -/
def pickL : List Nat → List HP → List HP × List HP
  | [], L => ([], L)
  | i :: is, L => match L[i]? with
    | some A => let r := pickL is (L.eraseIdx i); (A :: r.1, r.2)
    | none => pickL is L
theorem St.front {w : World} (H : St w0 f0 L w) (i : Nat) {A : HP} (hi : L[i]? = some A) : St w0 f0 (A :: L.eraseIdx i) w := by
  obtain ⟨f, hf, hfb⟩ := H.sf
  obtain ⟨f1, f2, e1, e2, e3, e4, _⟩ := hf.focus i hi
  exact ⟨H.step, f, ⟨f1, f2, e1, e2, e3, e4⟩, hfb⟩
theorem St.cons_mono {A : HP} {w : World} (H : St w0 f0 (A :: L) w) (h : ∀ w f, SF L w f → SF L' w f) : St w0 f0 (A :: L') w := by
  obtain ⟨f, ⟨f1, f2, e1, e2, e3, e4⟩, hfb⟩ := H.sf
  exact ⟨H.step, f, ⟨f1, f2, e1, e2, e3, h _ _ e4⟩, hfb⟩
theorem SF.front {w : World} {f : FP} (hf : SF L w f) (i : Nat) {A : HP} (hi : L[i]? = some A) : SF (A :: L.eraseIdx i) w f := by
  obtain ⟨f1, f2, e1, e2, e3, e4, _⟩ := hf.focus i hi
  exact ⟨f1, f2, e1, e2, e3, e4⟩
theorem SF.pick {w : World} : ∀ (is : List Nat) {L : List HP} {f : FP}, SF L w f → SF ((pickL is L).1 ++ (pickL is L).2) w f
  | [], L, f, h => h
  | i :: is, L, f, h => by
    unfold pickL
    cases hi : L[i]? with
    | none => exact SF.pick is h
    | some A =>
      obtain ⟨f1, f2, e1, e2, e3, e4⟩ := h.front i hi
      exact ⟨f1, f2, e1, e2, e3, SF.pick is e4⟩
theorem St.pick {w : World} (H : St w0 f0 L w) (is : List Nat) : St w0 f0 ((pickL is L).1 ++ (pickL is L).2) w := by
  obtain ⟨f, hf, hfb⟩ := H.sf
  exact ⟨H.step, f, hf.pick is, hfb⟩
/-- The pieces at these places (each place in what is left yet), in this order; the others are let go. -/
theorem PSub.take (is : List Nat) (h : (pickL is L).1 = L') : PSub w0 f0 L L' := by
  intro w H
  have H := H.pick is
  rw [h] at H
  obtain ⟨f, hf, hfb⟩ := H.sf
  obtain ⟨f1, f2, e1, e2, e3, e4⟩ := SF.app.1 hf
  exact ⟨H.step, f1, e3, fun b hb => hfb b ((e1 b).2 (.inl hb))⟩
theorem PSub.trans {L1 L2 L3 : List HP} (h : PSub w0 f0 L1 L2) (k : PSub w0 f0 L2 L3) : PSub w0 f0 L1 L3 := fun w H => k w (h w H)

/-! ### what only reckons -/
variable {d : Tmp} {ty t yt : TypeId} {pos : String} {after : Array Edge}
theorem s_move (h : sO P n w0 f0 ops m rest QC (up f d (ev f x)) L) (hd : Nat.blt d n = true := by rfl) : sO P n w0 f0 ops m (⟨some d, .move x, ty, pos, after, none⟩ :: rest) QC f L := fun w H => o_move (h w H) hd
theorem s_assign (h : sO P n w0 f0 ops m rest QC (up f d (ev f x)) L) (hd : Nat.blt d n = true := by rfl) : sO P n w0 f0 ops m (⟨some d, .assign x, ty, pos, after, none⟩ :: rest) QC f L := fun w H => o_assign (h w H) hd
theorem s_pick {b : Bool} (hx : ev f x = .bool b) (h : sO P n w0 f0 ops m rest QC (up f d (bif b then ev f y else ev f z)) L) (hd : Nat.blt d n = true := by rfl) : sO P n w0 f0 ops m (⟨some d, .pick x y z, ty, pos, after, none⟩ :: rest) QC f L := fun w H => o_pick b hx (h w H) hd
theorem s_add {k : IntKind} {a b : Int} (hx : ev f x = .int k a) (hy : ev f y = .int k b) (h : sO P n w0 f0 ops m rest QC (up f d (.int k (k.wrap (a + b)))) L) (hd : Nat.blt d n = true := by rfl) : sO P n w0 f0 ops m (⟨some d, .binOp .add t x y yt, ty, pos, after, none⟩ :: rest) QC f L := fun w H => o_add hx hy (h w H) hd
theorem s_add64 {a b : Int} (hx : ev f x = .int .i64 a) (hy : ev f y = .int .i64 b) (hr : -9223372036854775808 ≤ a + b ∧ a + b ≤ 9223372036854775807) (h : sO P n w0 f0 ops m rest QC (up f d (.int .i64 (a + b))) L) (hd : Nat.blt d n = true := by rfl) : sO P n w0 f0 ops m (⟨some d, .binOp .add t x y yt, ty, pos, after, none⟩ :: rest) QC f L := fun w H => o_add64 hx hy hr (h w H) hd
theorem s_addN {a b : Nat} (hx : ev f x = .int .i64 (a : Int)) (hy : ev f y = .int .i64 (b : Int)) (hr : a + b ≤ 9223372036854775807) (h : sO P n w0 f0 ops m rest QC (up f d (.int .i64 ((a + b : Nat) : Int))) L) (hd : Nat.blt d n = true := by rfl) : sO P n w0 f0 ops m (⟨some d, .binOp .add t x y yt, ty, pos, after, none⟩ :: rest) QC f L := s_add64 hx hy (by omega) (by rw [← Int.natCast_add]; exact h) hd
theorem s_add1 {a : Nat} (hx : ev f x = .int .i64 (a : Int)) (hy : ev f y = .int .i64 1) (hr : a < 9223372036854775807) (h : sO P n w0 f0 ops m rest QC (up f d (.int .i64 ((a + 1 : Nat) : Int))) L) (hd : Nat.blt d n = true := by rfl) : sO P n w0 f0 ops m (⟨some d, .binOp .add t x y yt, ty, pos, after, none⟩ :: rest) QC f L := s_addN (b := 1) hx hy (by omega) h hd
theorem s_sub64 {a b : Int} (hx : ev f x = .int .i64 a) (hy : ev f y = .int .i64 b) (hr : -9223372036854775808 ≤ a - b ∧ a - b ≤ 9223372036854775807) (h : sO P n w0 f0 ops m rest QC (up f d (.int .i64 (a - b))) L) (hd : Nat.blt d n = true := by rfl) : sO P n w0 f0 ops m (⟨some d, .binOp .sub t x y yt, ty, pos, after, none⟩ :: rest) QC f L := fun w H => o_sub64 hx hy hr (h w H) hd
theorem s_subW {k : IntKind} {a b : Int} (hx : ev f x = .int k a) (hy : ev f y = .int k b) (h : sO P n w0 f0 ops m rest QC (up f d (.int k (k.wrap (a - b)))) L) (hd : Nat.blt d n = true := by rfl) : sO P n w0 f0 ops m (⟨some d, .binOp .sub t x y yt, ty, pos, after, none⟩ :: rest) QC f L := fun w H => o_sub hx hy (h w H) hd
theorem s_mul64 {a b : Int} (hx : ev f x = .int .i64 a) (hy : ev f y = .int .i64 b) (hr : -9223372036854775808 ≤ a * b ∧ a * b ≤ 9223372036854775807) (h : sO P n w0 f0 ops m rest QC (up f d (.int .i64 (a * b))) L) (hd : Nat.blt d n = true := by rfl) : sO P n w0 f0 ops m (⟨some d, .binOp .mul t x y yt, ty, pos, after, none⟩ :: rest) QC f L := fun w H => o_mul64 hx hy hr (h w H) hd
theorem s_rem {k : IntKind} {a b : Int} (hx : ev f x = .int k a) (hy : ev f y = .int k b) (hb : b ≠ 0) (h : sO P n w0 f0 ops m rest QC (up f d (.int k (a.tmod b))) L) (hd : Nat.blt d n = true := by rfl) : sO P n w0 f0 ops m (⟨some d, .binOp .rem t x y yt, ty, pos, after, none⟩ :: rest) QC f L := fun w H => o_rem hx hy hb (h w H) hd
theorem s_quo {k : IntKind} {a b : Int} (hx : ev f x = .int k a) (hy : ev f y = .int k b) (hb : b ≠ 0) (h : sO P n w0 f0 ops m rest QC (up f d (.int k (k.wrap (a.tdiv b)))) L) (hd : Nat.blt d n = true := by rfl) : sO P n w0 f0 ops m (⟨some d, .binOp .quo t x y yt, ty, pos, after, none⟩ :: rest) QC f L := fun w H => o_quo hx hy hb (h w H) hd
theorem s_and {k : IntKind} {a b : Int} (hx : ev f x = .int k a) (hy : ev f y = .int k b) (h : sO P n w0 f0 ops m rest QC (up f d (.int k (k.wrap (BitVec.ofInt k.bits a &&& BitVec.ofInt k.bits b).toNat))) L) (hd : Nat.blt d n = true := by rfl) : sO P n w0 f0 ops m (⟨some d, .binOp .and t x y yt, ty, pos, after, none⟩ :: rest) QC f L := fun w H => o_and hx hy (h w H) hd
theorem s_eql {k : IntKind} {a b : Int} (hx : ev f x = .int k a) (hy : ev f y = .int k b) (h : sO P n w0 f0 ops m rest QC (up f d (.bool (decide (a = b)))) L) (hd : Nat.blt d n = true := by rfl) : sO P n w0 f0 ops m (⟨some d, .binOp .eql t x y yt, ty, pos, after, none⟩ :: rest) QC f L := fun w H => o_eql _ hx hy (by simp [BEq.beq]) (h w H) hd
theorem s_neq {k : IntKind} {a b : Int} (hx : ev f x = .int k a) (hy : ev f y = .int k b) (h : sO P n w0 f0 ops m rest QC (up f d (.bool (!decide (a = b)))) L) (hd : Nat.blt d n = true := by rfl) : sO P n w0 f0 ops m (⟨some d, .binOp .neq t x y yt, ty, pos, after, none⟩ :: rest) QC f L := fun w H => o_neq _ hx hy (by simp [bne, BEq.beq]) (h w H) hd
theorem s_lss {k : IntKind} {a b : Int} (hx : ev f x = .int k a) (hy : ev f y = .int k b) (h : sO P n w0 f0 ops m rest QC (up f d (.bool (decide (a < b)))) L) (hd : Nat.blt d n = true := by rfl) : sO P n w0 f0 ops m (⟨some d, .binOp .lss t x y yt, ty, pos, after, none⟩ :: rest) QC f L := fun w H => o_lss _ hx hy rfl (h w H) hd
theorem s_leq {k : IntKind} {a b : Int} (hx : ev f x = .int k a) (hy : ev f y = .int k b) (h : sO P n w0 f0 ops m rest QC (up f d (.bool (decide (a ≤ b)))) L) (hd : Nat.blt d n = true := by rfl) : sO P n w0 f0 ops m (⟨some d, .binOp .leq t x y yt, ty, pos, after, none⟩ :: rest) QC f L := fun w H => o_leq _ hx hy rfl (h w H) hd
theorem s_gtr {k : IntKind} {a b : Int} (hx : ev f x = .int k a) (hy : ev f y = .int k b) (h : sO P n w0 f0 ops m rest QC (up f d (.bool (decide (b < a)))) L) (hd : Nat.blt d n = true := by rfl) : sO P n w0 f0 ops m (⟨some d, .binOp .gtr t x y yt, ty, pos, after, none⟩ :: rest) QC f L := fun w H => o_gtr _ hx hy rfl (h w H) hd
theorem s_geq {k : IntKind} {a b : Int} (hx : ev f x = .int k a) (hy : ev f y = .int k b) (h : sO P n w0 f0 ops m rest QC (up f d (.bool (decide (b ≤ a)))) L) (hd : Nat.blt d n = true := by rfl) : sO P n w0 f0 ops m (⟨some d, .binOp .geq t x y yt, ty, pos, after, none⟩ :: rest) QC f L := fun w H => o_geq _ hx hy rfl (h w H) hd
theorem s_not {b : Bool} (hx : ev f x = .bool b) (h : sO P n w0 f0 ops m rest QC (up f d (.bool (!b))) L) (hd : Nat.blt d n = true := by rfl) : sO P n w0 f0 ops m (⟨some d, .unOp .not t x, ty, pos, after, none⟩ :: rest) QC f L := fun w H => o_not b hx (h w H) hd
theorem s_extract {vs : Array Value} {i : Nat} {v : Value} (hx : ev f x = .tuple vs) (hi : vs[i]? = some v) (h : sO P n w0 f0 ops m rest QC (up f d v) L) (hd : Nat.blt d n = true := by rfl) : sO P n w0 f0 ops m (⟨some d, .extract x i, ty, pos, after, none⟩ :: rest) QC f L := fun w H => o_extract hx hi (h w H) hd
theorem s_nilck {a : Addr} (hx : ev f x = .pointer (some a)) (h : sO P n w0 f0 ops m rest QC (up f d (.pointer (some a))) L) (hd : Nat.blt d n = true := by rfl) : sO P n w0 f0 ops m (⟨some d, .nilCheck x, ty, pos, after, none⟩ :: rest) QC f L := fun w H => o_nilck hx (h w H) hd
theorem s_func {fn : Fn} {l1 l2 : List Operand} {v1 v2 : List Value} (h1 : l1.map (ev f) = v1) (h2 : l2.map (ev f) = v2) (h : sO P n w0 f0 ops m rest QC (up f d (.func fn v1.toArray v2.toArray)) L) (hd : Nat.blt d n = true := by rfl) : sO P n w0 f0 ops m (⟨some d, .makeFunc fn l1.toArray l2.toArray, ty, pos, after, none⟩ :: rest) QC f L := fun w H => o_func h1 h2 (h w H) hd

/-! ### guards -/
variable {dst : Option Tmp} {op : Op} {type : TypeId} {j : Nat} {want : Bool}
theorem s_on (hj : (ops[j]?).bind (·.dst) = some d) (hb : f d = .bool want) (h : sO P n w0 f0 ops m (⟨dst, op, type, "", #[], none⟩ :: rest) QC f L) : sO P n w0 f0 ops m (⟨dst, op, type, pos, after, some (j, want)⟩ :: rest) QC f L :=
  fun w H => o_on hj hb fun pos after => h2 pos after (h w H)
where
  h2 {P : Program} {n : Nat} {ops : Array Oper} {m : Bool} {rest : List Oper} {f : Fr} {dst : Option Tmp} {op : Op} {type : TypeId} {Q : Fr → World → Prop} {w : World} (pos : String) (after : Array Edge) (h : wO P ops n m (⟨dst, op, type, "", #[], none⟩ :: rest) Q f w) : wO P ops n m (⟨dst, op, type, pos, after, none⟩ :: rest) Q f w := by
    unfold wO at h ⊢
    exact h
theorem s_off {b : Bool} (hj : (ops[j]?).bind (·.dst) = some d) (hb : f d = .bool b) (hne : (b == want) = false) (hd : dOk n dst = true) (h : sO P n w0 f0 ops m rest QC (upO f dst undef) L) : sO P n w0 f0 ops m (⟨dst, op, type, pos, after, some (j, want)⟩ :: rest) QC f L :=
  fun w H => o_off hj hb hne hd (h w H)
theorem s_offU (hj : (ops[j]?).bind (·.dst) = some d) (hb : f d = undef) (hd : dOk n dst = true) (hdn : Nat.blt d n = true) (h : sO P n w0 f0 ops m rest QC (upO f dst undef) L) : sO P n w0 f0 ops m (⟨dst, op, type, pos, after, some (j, want)⟩ :: rest) QC f L :=
  fun w H => o_offU hj hb hd hdn (h w H)
/-- The test of a guard, by cases. -/
theorem s_cases {b : Bool} (hj : (ops[j]?).bind (·.dst) = some d) (hb : f d = .bool b)
    (ht : b = true → sO P n w0 f0 ops m (⟨dst, op, type, pos, after, some (j, want)⟩ :: rest) QC (up f d (.bool true)) L) (hf : b = false → sO P n w0 f0 ops m (⟨dst, op, type, pos, after, some (j, want)⟩ :: rest) QC (up f d (.bool false)) L) : sO P n w0 f0 ops m (⟨dst, op, type, pos, after, some (j, want)⟩ :: rest) QC f L := by
  cases b with
  | true => have := ht rfl; rwa [up_self hb] at this
  | false => have := hf rfl; rwa [up_self hb] at this
theorem s_casesd {p : Prop} [Decidable p] (hj : (ops[j]?).bind (·.dst) = some d) (hb : f d = .bool (decide p))
    (ht : p → sO P n w0 f0 ops m (⟨dst, op, type, pos, after, some (j, want)⟩ :: rest) QC (up f d (.bool true)) L) (hf : ¬ p → sO P n w0 f0 ops m (⟨dst, op, type, pos, after, some (j, want)⟩ :: rest) QC (up f d (.bool false)) L) : sO P n w0 f0 ops m (⟨dst, op, type, pos, after, some (j, want)⟩ :: rest) QC f L :=
  s_cases hj hb (fun h => ht (of_decide_eq_true h)) fun h => hf (of_decide_eq_false h)
theorem s_casesn {p : Prop} [Decidable p] (hj : (ops[j]?).bind (·.dst) = some d) (hb : f d = .bool (!decide p))
    (ht : ¬ p → sO P n w0 f0 ops m (⟨dst, op, type, pos, after, some (j, want)⟩ :: rest) QC (up f d (.bool true)) L) (hf : p → sO P n w0 f0 ops m (⟨dst, op, type, pos, after, some (j, want)⟩ :: rest) QC (up f d (.bool false)) L) : sO P n w0 f0 ops m (⟨dst, op, type, pos, after, some (j, want)⟩ :: rest) QC f L :=
  s_cases hj hb (fun h => ht (by simpa using h)) fun h => hf (by simpa using h)
end
/-! which kind of goal, which kind of operation -/
section
variable {P : Program} {n : Nat} {w0 : World} {f0 : FP} {ops : Array Oper} {m : Bool} {rest : List Oper} {QC : Exit → Fr → World → Prop} {f : Fr} {L : List HP} {x y z : Operand} {e : Exit} {c : Code} {o : Oper} {g : Nat × Bool}
variable {d : Option Tmp} {ty t yt : TypeId} {pos : String} {after : Array Edge} {bop : BinOp} {op : Op} {k : Nat} {cc : Call}
theorem k_E (h : sE w0 f0 QC e f L) : sE w0 f0 QC e f L := h
theorem k_C (h : sC P n w0 f0 c QC f L) : sC P n w0 f0 c QC f L := h
theorem k_guard (h : sO P n w0 f0 ops m (⟨d, op, ty, pos, after, some g⟩ :: rest) QC f L) : sO P n w0 f0 ops m (⟨d, op, ty, pos, after, some g⟩ :: rest) QC f L := h
theorem k_load (h : sO P n w0 f0 ops m (⟨d, .load t x, ty, pos, after, none⟩ :: rest) QC f L) : sO P n w0 f0 ops m (⟨d, .load t x, ty, pos, after, none⟩ :: rest) QC f L := h
theorem k_bin (h : sO P n w0 f0 ops m (⟨d, .binOp bop t x y yt, ty, pos, after, none⟩ :: rest) QC f L) : sO P n w0 f0 ops m (⟨d, .binOp bop t x y yt, ty, pos, after, none⟩ :: rest) QC f L := h
theorem k_fld (h : sO P n w0 f0 ops m (⟨d, .fieldAddr t x k, ty, pos, after, none⟩ :: rest) QC f L) : sO P n w0 f0 ops m (⟨d, .fieldAddr t x k, ty, pos, after, none⟩ :: rest) QC f L := h
theorem k_idx (h : sO P n w0 f0 ops m (⟨d, .indexAddr t x y, ty, pos, after, none⟩ :: rest) QC f L) : sO P n w0 f0 ops m (⟨d, .indexAddr t x y, ty, pos, after, none⟩ :: rest) QC f L := h
theorem k_store (h : sO P n w0 f0 ops m (⟨d, .store t x y, ty, pos, after, none⟩ :: rest) QC f L) : sO P n w0 f0 ops m (⟨d, .store t x y, ty, pos, after, none⟩ :: rest) QC f L := h
theorem k_call (h : sO P n w0 f0 ops m (⟨d, .call cc, ty, pos, after, none⟩ :: rest) QC f L) : sO P n w0 f0 ops m (⟨d, .call cc, ty, pos, after, none⟩ :: rest) QC f L := h
end
attribute [irreducible] lpS ctS sqS bkS
section
open Go Go.RowKit

class Enc (α : Type) where
  enc : α → List Value
  sz : Nat
  dflt : α
  len : ∀ x, (enc x).length = sz
  one : ∀ x u, u ∈ enc x → u.oneCell' = true
  pos : 0 < sz
def nth {α : Type} [Enc α] (xs : List α) (i : Nat) : α := xs.getD i Enc.dflt
theorem nth_of {α : Type} [Enc α] {xs : List α} {i : Nat} {v : α} (h : xs[i]? = some v) : nth xs i = v := by simp [nth, h]
theorem nth_some {α : Type} [Enc α] {xs : List α} {i : Nat} (h : i < xs.length) : xs[i]? = some (nth xs i) := by simp [nth, h]
theorem nth_get {α : Type} [Enc α] {xs : List α} {i : Nat} (h : i < xs.length) : nth xs i = xs[i] := by simp [nth, h]
theorem nth_out {α : Type} [Enc α] {xs : List α} {i : Nat} (h : xs.length ≤ i) : nth xs i = Enc.dflt := by simp [nth, h]
theorem nth_mem {α : Type} [Enc α] {xs : List α} {i : Nat} (h : i < xs.length) : nth xs i ∈ xs := List.mem_of_getElem? (nth_some h)
theorem nth_set {α : Type} [Enc α] {xs : List α} {i j : Nat} {v : α} (h : i < xs.length) : nth (xs.set i v) j = if j = i then v else nth xs j := by
  unfold nth
  by_cases e : j = i
  · subst e; simp [h]
  · rw [if_neg e, List.getD_eq_getElem?_getD, List.getD_eq_getElem?_getD, List.getElem?_set_ne (Ne.symm e)]
theorem nth_app {α : Type} [Enc α] {xs ys : List α} {i : Nat} : nth (xs ++ ys) i = if i < xs.length then nth xs i else nth ys (i - xs.length) := by
  unfold nth
  rw [List.getD_eq_getElem?_getD, List.getD_eq_getElem?_getD, List.getD_eq_getElem?_getD]
  split
  · rename_i h; rw [List.getElem?_append_left h]
  · rename_i h; rw [List.getElem?_append_right (by omega)]
theorem nth_rep {α : Type} [Enc α] {m i : Nat} : nth (List.replicate m (Enc.dflt : α)) i = Enc.dflt := by
  unfold nth; rw [List.getD_eq_getElem?_getD, List.getElem?_replicate]; split <;> rfl

/-- Slices: where they lie, and what is in them. -/
structure Sl (α : Type) where
  A : Option Addr
  c : Nat
  xs : List α
abbrev GoStr := ByteArray
def u64 := Int
def u8 := Int
instance : Enc Int := ⟨fun x => [.int .i64 x], 1, 0, fun _ => rfl, fun _ u h => by simp at h; subst h; rfl, by decide⟩
instance : Enc Bool := ⟨fun x => [.bool x], 1, false, fun _ => rfl, fun _ u h => by simp at h; subst h; rfl, by decide⟩
instance {α : Type} : Enc (Sl α) := ⟨fun s => [.slice s.A s.xs.length s.c], 1, ⟨none, 0, []⟩, fun _ => rfl, fun _ u h => by simp at h; subst h; rfl, by decide⟩
/-- maps, as they are handed about -/
structure Mr where
  b : Option Nat
instance : Enc Mr := ⟨fun s => [.map s.b], 1, ⟨none⟩, fun _ => rfl, fun _ u h => by simp at h; subst h; rfl, by decide⟩
structure Pr where
  a : Option Addr
instance : Enc Pr := ⟨fun s => [.pointer s.a], 1, ⟨none⟩, fun _ => rfl, fun _ u h => by simp at h; subst h; rfl, by decide⟩
@[simp] theorem dflt_int : (Enc.dflt : Int) = 0 := rfl
@[simp] theorem dflt_bool : (Enc.dflt : Bool) = false := rfl
@[simp] theorem dflt_sl {α : Type} : (Enc.dflt : Sl α) = ⟨none, 0, []⟩ := rfl
@[simp] theorem dflt_mr : (Enc.dflt : Mr) = ⟨none⟩ := rfl

/-! ### types of the program -/
class Elt (P : Program) (e : TypeId) (α : outParam Type) (I : outParam (Enc α)) (sz bytes : outParam Nat) : Prop where
  ex : ∃ zv, TI P e zv sz bytes ∧ zv.cells.toList = I.enc I.dflt
  sz_eq : I.sz = sz
class SlT (P : Program) (t : TypeId) (e : outParam TypeId) : Prop where
  u : P.underlying t = some (.slice e)
class FldT (P : Program) (t : TypeId) (k : Nat) (off : outParam Nat) : Prop where
  ex : ∃ fs fl m, P.underlying t = some (.struct fs) ∧ fs[k]? = some fl ∧ fl.offset = off ∧ ∀ w, (sizeOf fl.type).run P w = .ok (m + 1) w
class C1 (P : Program) (t : TypeId) : Prop where
  h : T1 P t
class CA (P : Program) (t : TypeId) (m : outParam Nat) : Prop where
  h : TA P t m

def adr0 : Addr := ⟨0, 0, none⟩
def pt (A : Option Addr) (k : Nat) : Value := .pointer (some ((A.getD adr0).add k))

/-! ### pieces -/
def own {α : Type} [I : Enc α] (e : TypeId) (A : Option Addr) (l c : Nat) (xs : List α) : HP := row A l c e I.sz (xs.flatMap I.enc)
def tmpo {α : Type} [I : Enc α] (e : TypeId) (A : Option Addr) (l c : Nat) (xs : List α) : HP := own e A l c xs
def var {α : Type} [I : Enc α] (e : TypeId) (b : Nat) (x : α) : HP := blk b e (I.enc x)
def rws {α : Type} [I : Enc α] (e : TypeId) (ss : List (Sl α)) : HP := star (ss.map fun s => own e s.A s.xs.length s.c s.xs)

class Pc (L : List HP) (A : Option Addr) (X : outParam HP) (put : outParam (HP → List HP)) : Prop where
  at_ : ∃ i, L[i]? = some X ∧ ∀ Y, put Y = L.set i Y
class PcB (L : List HP) (b : Nat) (X : outParam HP) (put : outParam (HP → List HP)) : Prop where
  at_ : ∃ i, L[i]? = some X ∧ ∀ Y, put Y = L.set i Y
class PcR (L : List HP) {α : Type} [Enc α] (s : Sl α) (X : outParam HP) (ss : outParam (List (Sl α))) (i : outParam Nat) (put : outParam (HP → List HP)) : Prop where
  at_ : ∃ i, L[i]? = some X ∧ ∀ Y, put Y = L.set i Y
  key : nth ss i = s
/-- a piece taken out -/
class Pd (L : List HP) (A : Option Addr) (X : outParam HP) (R : outParam (List HP)) : Prop where
  at_ : ∃ i, L[i]? = some X ∧ R = L.eraseIdx i
section
variable {α : Type} [Enc α] {e : TypeId} {A : Option Addr} {l c b : Nat} {xs : List α} {x : α} {X : HP} {B : HP} {L L1 R : List HP} {put : HP → List HP} {ss : List (Sl α)} {s : Sl α} {i : Nat}
instance (priority := high) pc_here : Pc (own e A l c xs :: L) A (own e A l c xs) (fun Y => Y :: L) := ⟨0, rfl, fun _ => rfl⟩
instance pc_next [h : Pc L A X put] : Pc (B :: L) A X (fun Y => B :: put Y) := by
  obtain ⟨i, h1, h2⟩ := h.at_; exact ⟨i + 1, h1, fun Y => by rw [h2]; rfl⟩
instance (priority := high) pcb_here : PcB (var e b x :: L) b (var e b x) (fun Y => Y :: L) := ⟨0, rfl, fun _ => rfl⟩
instance pcb_next [h : PcB L b X put] : PcB (B :: L) b X (fun Y => B :: put Y) := by
  obtain ⟨i, h1, h2⟩ := h.at_; exact ⟨i + 1, h1, fun Y => by rw [h2]; rfl⟩
instance (priority := high) pcr_here : PcR (rws e ss :: L) (nth ss i) (rws e ss) ss i (fun Y => Y :: L) := ⟨⟨0, rfl, fun _ => rfl⟩, rfl⟩
instance pcr_next [h : PcR L s X ss i put] : PcR (B :: L) s X ss i (fun Y => B :: put Y) := by
  obtain ⟨i, h1, h2⟩ := h.at_; exact ⟨⟨i + 1, h1, fun Y => by rw [h2]; rfl⟩, h.key⟩
instance (priority := high) pd_here : Pd (tmpo e A l c xs :: L) A (tmpo e A l c xs) L := ⟨0, rfl, rfl⟩
instance pd_next [h : Pd L A X R] : Pd (B :: L) A X (B :: R) := by
  obtain ⟨i, h1, h2⟩ := h.at_; exact ⟨i + 1, h1, by rw [h2]; rfl⟩
instance pc_app [h : Pc L A X put] : Pc (L1 ++ L) A X (fun Y => L1 ++ put Y) := by
  obtain ⟨i, h1, h2⟩ := h.at_
  refine ⟨L1.length + i, by rw [List.getElem?_append_right (by omega), Nat.add_sub_cancel_left]; exact h1, fun Y => ?_⟩
  rw [h2, List.set_append_right _ _ (by omega), Nat.add_sub_cancel_left]
instance pc_nil [h : Pc L A X put] : Pc ([] ++ L) A X put := h
instance pc_cons [h : Pc (B :: (L1 ++ L)) A X put] : Pc ((B :: L1) ++ L) A X put := h
instance pcb_nil [h : PcB L b X put] : PcB ([] ++ L) b X put := h
instance pcb_cons [h : PcB (B :: (L1 ++ L)) b X put] : PcB ((B :: L1) ++ L) b X put := h
instance pcr_nil [h : PcR L s X ss i put] : PcR ([] ++ L) s X ss i put := h
instance pcr_cons [h : PcR (B :: (L1 ++ L)) s X ss i put] : PcR ((B :: L1) ++ L) s X ss i put := h
instance pd_nil [h : Pd L A X R] : Pd ([] ++ L) A X R := h
instance pd_cons [h : Pd (B :: (L1 ++ L)) A X R] : Pd ((B :: L1) ++ L) A X R := h
instance pcb_app [h : PcB L b X put] : PcB (L1 ++ L) b X (fun Y => L1 ++ put Y) := by
  obtain ⟨i, h1, h2⟩ := h.at_
  refine ⟨L1.length + i, by rw [List.getElem?_append_right (by omega), Nat.add_sub_cancel_left]; exact h1, fun Y => ?_⟩
  rw [h2, List.set_append_right _ _ (by omega), Nat.add_sub_cancel_left]
end

/-! ### what is only read, at depth -/
class Dp (α : Type) [Enc α] where
  rd : FP → World → α → Prop
  loc : ∀ {ok ok' : FP} {w w' : World} {x : α}, rd ok w x → (∀ b, ok b → ok' b ∧ w'.heap[b]? = w.heap[b]?) → rd ok' w' x
  dflt : ∀ ok w, rd ok w Enc.dflt
class RdD {α : Type} [Enc α] [Dp α] (ok : FP) (w : World) (x : α) : Prop where
  h : Dp.rd ok w x
instance : Dp Int := ⟨fun _ _ x => wfi x, fun h _ => h, fun _ _ => by unfold wfi; decide⟩
instance : Dp Bool := ⟨fun _ _ _ => True, fun h _ => h, fun _ _ => trivial⟩
def RdSl {α : Type} [I : Enc α] (ok : FP) (w : World) (s : Sl α) : Prop := RdS ok w s.A s.xs.length s.c I.sz (s.xs.flatMap I.enc)
instance {α : Type} [I : Enc α] [D : Dp α] : Dp (Sl α) := ⟨fun ok w s => RdSl ok w s ∧ ∀ x ∈ s.xs, D.rd ok w x, fun h hk => ⟨h.1.loc hk, fun x hx => D.loc (h.2 x hx) hk⟩,
  fun ok w => ⟨⟨by simp [Enc.dflt], Nat.le_refl _, Nat.zero_le _, .inl rfl⟩, fun x hx => by cases hx⟩⟩
instance rd_nth {α : Type} [Enc α] [D : Dp α] {ok : FP} {w : World} {s : Sl α} {i : Nat} [h : RdD ok w s] : RdD ok w (nth s.xs i) := ⟨by
  by_cases hi : i < s.xs.length
  · exact h.h.2 _ (nth_mem hi)
  · rw [nth_out (by omega)]; exact D.dflt ok w⟩
theorem RdD.loc {α : Type} [Enc α] [D : Dp α] {ok ok' : FP} {w w' : World} {x : α} (h : RdD ok w x) (hk : ∀ b, ok b → ok' b ∧ w'.heap[b]? = w.heap[b]?) : RdD ok' w' x := ⟨D.loc h.h hk⟩
theorem RdD.int {ok : FP} {w : World} {x : Int} (h : RdD ok w x) : wfi x := h.h
/-- A block that is only read. -/
class RdB {α : outParam Type} [I : outParam (Enc α)] (ok : FP) (w : World) (b : Nat) (x : outParam α) : Prop where
  h : Cells ok w ⟨b, 0, none⟩ (I.enc x)

section
variable {P : Program} {n : Nat} {w0 w : World} {f0 : FP} {ops : Array Oper} {m : Bool} {rest : List Oper} {QC : Exit → Fr → World → Prop} {f : Fr} {L R : List HP} {x y z : Operand}
variable {d : Tmp} {ty t yt e e2 : TypeId} {pos : String} {after : Array Edge} {α : Type} {I : Enc α} {sz bytes : Nat} {A : Option Addr} {l c : Nat} {xs : List α} {put : HP → List HP} {X : HP}

theorem own.len' (hE : Elt P e α I sz bytes) {g : FP} (h : (own e A l c xs).sat w g) : xs.length = l ∧ l ≤ c ∧ c ≤ maxLen := by
  have h1 := row.len (show (row A l c e I.sz (xs.flatMap I.enc)).sat w g from h)
  rw [flat_len (sz := I.sz) (fun a _ => I.len a)] at h1
  exact ⟨Nat.eq_of_mul_eq_mul_right I.pos h1.1, h1.2⟩
theorem own.len {g : FP} (h : (own (I := I) e A l c xs).sat w g) : xs.length = l ∧ l ≤ c ∧ c ≤ maxLen := by
  have h1 := row.len (show (row A l c e I.sz (xs.flatMap I.enc)).sat w g from h)
  rw [flat_len (sz := I.sz) (fun a _ => I.len a)] at h1
  exact ⟨Nat.eq_of_mul_eq_mul_right I.pos h1.1, h1.2⟩

/-- The length of a row of the call's own is known. -/
theorem s_lenO (A : Option Addr) {c1 : Code} [h : Pc L A (own (I := I) e A l c xs) put] (k : xs.length = l → l ≤ c → c ≤ maxLen → sC P n w0 f0 c1 QC f L) : sC P n w0 f0 c1 QC f L := by
  intro w H
  obtain ⟨i, h1, _⟩ := h.at_
  obtain ⟨g, hA, _⟩ := H.focus i h1
  obtain ⟨a, b, c⟩ := own.len hA
  exact k a b c w H
theorem so_lenO (A : Option Addr) {lo : List Oper} [h : Pc L A (own (I := I) e A l c xs) put] (k : xs.length = l → l ≤ c → c ≤ maxLen → sO P n w0 f0 ops m lo QC f L) : sO P n w0 f0 ops m lo QC f L := by
  intro w H
  obtain ⟨i, h1, _⟩ := h.at_
  obtain ⟨g, hA, _⟩ := H.focus i h1
  obtain ⟨a, b, c⟩ := own.len hA
  exact k a b c w H
theorem se_lenO (A : Option Addr) {ex : Exit} [h : Pc L A (own (I := I) e A l c xs) put] (k : xs.length = l → l ≤ c → c ≤ maxLen → sE w0 f0 QC ex f L) : sE w0 f0 QC ex f L := by
  intro w H
  obtain ⟨i, h1, _⟩ := h.at_
  obtain ⟨g, hA, _⟩ := H.focus i h1
  obtain ⟨a, b, c⟩ := own.len hA
  exact k a b c w H

theorem s_len {l c : Nat} [hs : SlT P t e] (hx : ev f x = .slice A l c) (h : sO P n w0 f0 ops m rest QC (up f d (.int .i64 (l : Nat))) L) (hd : Nat.blt d n = true := by rfl) :
    sO P n w0 f0 ops m (⟨some d, .call { callee := .builtin .len, args := #[x], argTypes := #[t] }, ty, pos, after, none⟩ :: rest) QC f L := fun w H => o_len hs.u hx (h w H) hd

/-! elements of a row of the call's own -/
theorem s_idx [hs : SlT P t e] [hE : Elt P e α I sz bytes] {k : IntKind} {j : Nat} (hx : ev f x = .slice A l c) (hy : ev f y = .int k (j : Int)) [h : Pc L A (own (I := I) e2 A l c xs) put] (h1 : j < l)
    (hn : sO P n w0 f0 ops m rest QC (up f d (pt A (j * sz))) L) (hd : Nat.blt d n = true := by rfl) : sO P n w0 f0 ops m (⟨some d, .indexAddr t x y, ty, pos, after, none⟩ :: rest) QC f L := by
  intro w H
  obtain ⟨zv, hTI, _⟩ := hE.ex
  obtain ⟨i, hi, _⟩ := h.at_
  have hi' : L[i]? = some (row A l c e2 sz (xs.flatMap I.enc)) := by rw [hi, ← hE.sz_eq]; rfl
  refine o_idxR hs.u hTI H i hi' hx hy (by omega) (by omega) (fun a ha _ => ?_) hd
  subst ha
  exact hn w H
theorem s_idxI [hs : SlT P t e] [hE : Elt P e α I sz bytes] {k : IntKind} {j : Int} (hx : ev f x = .slice A l c) (hy : ev f y = .int k j) [h : Pc L A (own (I := I) e2 A l c xs) put] (h0 : 0 ≤ j) (h1 : j < l)
    (hn : sO P n w0 f0 ops m rest QC (up f d (pt A (j.toNat * sz))) L) (hd : Nat.blt d n = true := by rfl) : sO P n w0 f0 ops m (⟨some d, .indexAddr t x y, ty, pos, after, none⟩ :: rest) QC f L :=
  s_idx (j := j.toNat) hx (by rw [Int.toNat_of_nonneg h0]; exact hy) (by omega) hn hd
/-- .. of one that is only read -/
theorem s_idxS [hs : SlT P t e] [hE : Elt P e α I sz bytes] [Dp α] {s : Sl α} {k : IntKind} {j : Nat} (hx : ev f x = .slice s.A s.xs.length s.c) (hy : ev f y = .int k (j : Int)) [h : RdD (okOf w0 f0) w0 s] (h1 : j < s.xs.length)
    (hn : sO P n w0 f0 ops m rest QC (up f d (pt s.A (j * sz))) L) (hd : Nat.blt d n = true := by rfl) : sO P n w0 f0 ops m (⟨some d, .indexAddr t x y, ty, pos, after, none⟩ :: rest) QC f L := by
  intro w H
  obtain ⟨zv, hTI, _⟩ := hE.ex
  have hR := h.h.1
  unfold RdSl at hR
  rw [hE.sz_eq] at hR
  refine o_idxS hs.u hTI hR hx hy (by omega) (by omega) (fun a ha _ => ?_) hd
  have := hn w H
  rw [ha] at this
  exact this
theorem s_idxSI [hs : SlT P t e] [hE : Elt P e α I sz bytes] [Dp α] {s : Sl α} {k : IntKind} {j : Int} (hx : ev f x = .slice s.A s.xs.length s.c) (hy : ev f y = .int k j) [h : RdD (okOf w0 f0) w0 s] (h0 : 0 ≤ j) (h1 : j < s.xs.length)
    (hn : sO P n w0 f0 ops m rest QC (up f d (pt s.A (j.toNat * sz))) L) (hd : Nat.blt d n = true := by rfl) : sO P n w0 f0 ops m (⟨some d, .indexAddr t x y, ty, pos, after, none⟩ :: rest) QC f L :=
  s_idxS (j := j.toNat) hx (by rw [Int.toNat_of_nonneg h0]; exact hy) (by omega) hn hd
/-- .. of one of many rows -/
theorem rws.inner {ss : List (Sl α)} {q : Nat} {i : Nat} (H : St w0 f0 L w) (hi : L[i]? = some (rws e ss)) (hq : q < ss.length) : ∃ g, (own e (nth ss q).A (nth ss q).xs.length (nth ss q).c (nth ss q).xs).sat w g := by
  have := H.pull i hi q (R := own e (nth ss q).A (nth ss q).xs.length (nth ss q).c (nth ss q).xs) (by rw [List.getElem?_map, nth_some hq]; rfl)
  obtain ⟨f1, h, _⟩ := this.focus L.length (A := own e (nth ss q).A (nth ss q).xs.length (nth ss q).c (nth ss q).xs) (by rw [List.getElem?_append_right (by simp)]; simp)
  exact ⟨f1, h⟩
theorem s_idxR [hs : SlT P t e] [hE : Elt P e α I sz bytes] {s : Sl α} {ss : List (Sl α)} {q : Nat} {k : IntKind} {j : Nat} (hx : ev f x = .slice s.A s.xs.length s.c) (hy : ev f y = .int k (j : Int)) [h : PcR L s (rws e2 ss) ss q put] (h1 : j < s.xs.length)
    (hn : sO P n w0 f0 ops m rest QC (up f d (pt s.A (j * sz))) L) (hd : Nat.blt d n = true := by rfl) : sO P n w0 f0 ops m (⟨some d, .indexAddr t x y, ty, pos, after, none⟩ :: rest) QC f L := by
  intro w H
  obtain ⟨zv, hTI, _⟩ := hE.ex
  obtain ⟨i, hi, _⟩ := h.at_
  have hq : q < ss.length := by
    apply Classical.byContradiction
    intro hn
    have := h.key
    rw [nth_out (by omega)] at this
    rw [← this] at h1
    exact absurd h1 (Nat.not_lt_zero _)
  obtain ⟨g, hg⟩ := rws.inner H hi hq
  rw [h.key] at hg
  have hg : (row s.A s.xs.length s.c e2 I.sz (s.xs.flatMap I.enc)).sat w g := hg
  obtain ⟨a, ha, _⟩ := row.adr hg (by omega)
  have := hn w H
  refine o_idx hs.u hTI.size (by rw [hx, ha]) hy (by omega) (by omega) ?_ hd
  unfold pt at this
  rw [ha] at this
  exact this
theorem s_idxRI [hs : SlT P t e] [hE : Elt P e α I sz bytes] {s : Sl α} {ss : List (Sl α)} {q : Nat} {k : IntKind} {j : Int} (hx : ev f x = .slice s.A s.xs.length s.c) (hy : ev f y = .int k j) [h : PcR L s (rws e2 ss) ss q put] (h0 : 0 ≤ j) (h1 : j < s.xs.length)
    (hn : sO P n w0 f0 ops m rest QC (up f d (pt s.A (j.toNat * sz))) L) (hd : Nat.blt d n = true := by rfl) : sO P n w0 f0 ops m (⟨some d, .indexAddr t x y, ty, pos, after, none⟩ :: rest) QC f L :=
  s_idxR (j := j.toNat) hx (by rw [Int.toNat_of_nonneg h0]; exact hy) (by omega) hn hd

/-! fields -/
theorem s_fld {k off : Nat} {q : Nat} [h : FldT P t k off] (hx : ev f x = pt A q) (hn : sO P n w0 f0 ops m rest QC (up f d (pt A (q + off))) L) (hd : Nat.blt d n = true := by rfl) : sO P n w0 f0 ops m (⟨some d, .fieldAddr t x k, ty, pos, after, none⟩ :: rest) QC f L := by
  intro w H
  obtain ⟨fs, fl, mm, h1, h2, rfl, h3⟩ := h.ex
  refine o_fld h1 h2 h3 hx ?_ hd
  have := hn w H
  unfold pt at this
  rw [← add_add'] at this
  exact this
theorem s_fldB {k off : Nat} {b o : Nat} [h : FldT P t k off] (hx : ev f x = .pointer (some ⟨b, o, none⟩)) (hn : sO P n w0 f0 ops m rest QC (up f d (.pointer (some ⟨b, o + off, none⟩))) L) (hd : Nat.blt d n = true := by rfl) : sO P n w0 f0 ops m (⟨some d, .fieldAddr t x k, ty, pos, after, none⟩ :: rest) QC f L := by
  intro w H
  obtain ⟨fs, fl, mm, h1, h2, rfl, h3⟩ := h.ex
  refine o_fld h1 h2 h3 hx ?_ hd
  have := hn w H
  rw [add_spot rfl]
  exact this

/-! loads -/
theorem own.at (hE : Elt P e α I sz bytes) {g : FP} (h : (own (I := I) e2 A l c xs).sat w g) {j o : Nat} (hj : j < l) {v : Value} (hv : (I.enc (nth xs j))[o]? = some v) : ∃ a, A = some a ∧ w.cell? (a.add (j * sz + o)) = some v := by
  have hl := own.len h
  obtain ⟨a, rfl, _⟩ := row.adr (show (row A l c e2 I.sz (xs.flatMap I.enc)).sat w g from h) (by omega)
  refine ⟨a, rfl, row.cell (show (row (some a) l c e2 I.sz (xs.flatMap I.enc)).sat w g from h) ?_⟩
  rw [← hE.sz_eq, flat_get (fun a _ => I.len a) (nth_some (by omega)) (by have := (List.getElem?_eq_some_iff.1 hv).1; rw [I.len] at this; exact this)]
  exact hv
theorem ld_own [hT : C1 P t] (hE : Elt P e α I sz bytes) {i : Nat} (H : St w0 f0 L w) (hi : L[i]? = some (own (I := I) e2 A l c xs)) {j o : Nat} (hj : j < l) {v : Value} (hv : (I.enc (nth xs j))[o]? = some v) : (loadVar t ((A.getD adr0).add (j * sz + o))).run P w = .ok v w := by
  obtain ⟨g, hA, _⟩ := H.focus i hi
  obtain ⟨a, rfl, hc⟩ := own.at hE hA hj hv
  exact ld1 hT.h hc
theorem s_ld [hT : C1 P t] {j : Nat} (hx : ev f x = pt A (j * sz)) [h : Pc L A (own (I := I) e2 A l c xs) put] [hE : Elt P e2 α I sz bytes] (h1 : j < l) {v : Value} (hv : (I.enc (nth xs j))[0]? = some v)
    (hn : sO P n w0 f0 ops m rest QC (up f d v) L) (hd : Nat.blt d n = true := by rfl) : sO P n w0 f0 ops m (⟨some d, .load t x, ty, pos, after, none⟩ :: rest) QC f L := by
  intro w H
  obtain ⟨i, hi, _⟩ := h.at_
  exact o_load hx (ld_own hE H hi h1 hv) (hn w H) hd
theorem s_ldF [hT : C1 P t] {j o : Nat} (hx : ev f x = pt A (j * sz + o)) [h : Pc L A (own (I := I) e2 A l c xs) put] [hE : Elt P e2 α I sz bytes] (h1 : j < l) {v : Value} (hv : (I.enc (nth xs j))[o]? = some v)
    (hn : sO P n w0 f0 ops m rest QC (up f d v) L) (hd : Nat.blt d n = true := by rfl) : sO P n w0 f0 ops m (⟨some d, .load t x, ty, pos, after, none⟩ :: rest) QC f L := by
  intro w H
  obtain ⟨i, hi, _⟩ := h.at_
  exact o_load hx (ld_own hE H hi h1 hv) (hn w H) hd
theorem enc_at {u : α} {o q : Nat} (h : o + q ≤ I.sz) {k : Nat} {v : Value} (hk : (((I.enc u).drop o).take q)[k]? = some v) : (I.enc u)[o + k]? = some v := by
  have hkq : k < q := by
    have := (List.getElem?_eq_some_iff.1 hk).1
    simp at this; omega
  rwa [List.getElem?_take_of_lt hkq, List.getElem?_drop] at hk
theorem s_ldA {q : Nat} [hT : CA P t q] {j : Nat} (hx : ev f x = pt A (j * sz)) [h : Pc L A (own (I := I) e2 A l c xs) put] [hE : Elt P e2 α I sz bytes] (h1 : j < l) (hq : q = sz)
    (hn : sO P n w0 f0 ops m rest QC (up f d (.agg (I.enc (nth xs j)).toArray)) L) (hd : Nat.blt d n = true := by rfl) : sO P n w0 f0 ops m (⟨some d, .load t x, ty, pos, after, none⟩ :: rest) QC f L := by
  intro w H
  obtain ⟨i, hi, _⟩ := h.at_
  obtain ⟨g, hA, _⟩ := H.focus i hi
  refine o_load hx (ldA hT.h (by rw [I.len, hE.sz_eq, hq]) fun k v hk => ?_) (hn w H) hd
  obtain ⟨a, rfl, hc⟩ := own.at hE hA h1 hk
  rw [add_add']
  exact hc
theorem s_ldFA {q : Nat} [hT : CA P t q] {j o : Nat} (hx : ev f x = pt A (j * sz + o)) [h : Pc L A (own (I := I) e2 A l c xs) put] [hE : Elt P e2 α I sz bytes] (h1 : j < l) (hq : o + q ≤ sz)
    (hn : sO P n w0 f0 ops m rest QC (up f d (.agg (((I.enc (nth xs j)).drop o).take q).toArray)) L) (hd : Nat.blt d n = true := by rfl) : sO P n w0 f0 ops m (⟨some d, .load t x, ty, pos, after, none⟩ :: rest) QC f L := by
  intro w H
  obtain ⟨i, hi, _⟩ := h.at_
  obtain ⟨g, hA, _⟩ := H.focus i hi
  refine o_load hx (ldA hT.h (by rw [List.length_take, List.length_drop, I.len, hE.sz_eq]; omega) fun k v hk => ?_) (hn w H) hd
  obtain ⟨a, rfl, hc⟩ := own.at hE hA h1 (enc_at (by rw [hE.sz_eq]; exact hq) hk)
  rw [add_add', Nat.add_assoc]
  exact hc
/-! .. of what is only read -/
theorem rds_at (hz : I.sz = sz) [D : Dp α] {s : Sl α} (H : St w0 f0 L w) (h : RdD (okOf w0 f0) w0 s) {j o : Nat} (hj : j < s.xs.length) {v : Value} (hv : (I.enc (nth s.xs j))[o]? = some v) : w.cell? ((s.A.getD adr0).add (j * sz + o)) = some v := by
  rcases h.h.1.2.2.2 with h0 | ⟨a, ha, hC⟩
  · omega
  · rw [ha]
    refine (hC.loc H.ok0).2 _ _ ?_
    rw [← hz, flat_get (fun a _ => I.len a) (nth_some hj) (by have := (List.getElem?_eq_some_iff.1 hv).1; rw [I.len] at this; exact this)]
    exact hv
theorem s_ldS [hT : C1 P t] [Dp α] {s : Sl α} {j : Nat} (hx : ev f x = pt s.A (j * sz)) [h : RdD (okOf w0 f0) w0 s] (hz : I.sz = sz) (h1 : j < s.xs.length) {v : Value} (hv : (I.enc (nth s.xs j))[0]? = some v)
    (hn : sO P n w0 f0 ops m rest QC (up f d v) L) (hd : Nat.blt d n = true := by rfl) : sO P n w0 f0 ops m (⟨some d, .load t x, ty, pos, after, none⟩ :: rest) QC f L :=
  fun w H => o_load hx (ld1 hT.h (rds_at hz H h h1 hv)) (hn w H) hd
theorem s_ldSF [hT : C1 P t] [Dp α] {s : Sl α} {j o : Nat} (hx : ev f x = pt s.A (j * sz + o)) [h : RdD (okOf w0 f0) w0 s] (hz : I.sz = sz) (h1 : j < s.xs.length) {v : Value} (hv : (I.enc (nth s.xs j))[o]? = some v)
    (hn : sO P n w0 f0 ops m rest QC (up f d v) L) (hd : Nat.blt d n = true := by rfl) : sO P n w0 f0 ops m (⟨some d, .load t x, ty, pos, after, none⟩ :: rest) QC f L :=
  fun w H => o_load hx (ld1 hT.h (rds_at hz H h h1 hv)) (hn w H) hd
theorem s_ldSA {q : Nat} [hT : CA P t q] [Dp α] {s : Sl α} {j : Nat} (hx : ev f x = pt s.A (j * sz)) [h : RdD (okOf w0 f0) w0 s] (hz : I.sz = sz) (h1 : j < s.xs.length) (hq : q = sz)
    (hn : sO P n w0 f0 ops m rest QC (up f d (.agg (I.enc (nth s.xs j)).toArray)) L) (hd : Nat.blt d n = true := by rfl) : sO P n w0 f0 ops m (⟨some d, .load t x, ty, pos, after, none⟩ :: rest) QC f L :=
  fun w H => o_load hx (ldA hT.h (by rw [I.len, hz, hq]) fun k v hk => by rw [add_add']; exact rds_at hz H h h1 hk) (hn w H) hd
theorem s_ldSFA {q : Nat} [hT : CA P t q] [Dp α] {s : Sl α} {j o : Nat} (hx : ev f x = pt s.A (j * sz + o)) [h : RdD (okOf w0 f0) w0 s] (hz : I.sz = sz) (h1 : j < s.xs.length) (hq : o + q ≤ sz)
    (hn : sO P n w0 f0 ops m rest QC (up f d (.agg (((I.enc (nth s.xs j)).drop o).take q).toArray)) L) (hd : Nat.blt d n = true := by rfl) : sO P n w0 f0 ops m (⟨some d, .load t x, ty, pos, after, none⟩ :: rest) QC f L :=
  fun w H => o_load hx (ldA hT.h (by rw [List.length_take, List.length_drop, I.len, hz]; omega) fun k v hk => by rw [add_add', Nat.add_assoc]; exact rds_at hz H h h1 (enc_at (by rw [hz]; exact hq) hk)) (hn w H) hd
/-! .. of one of many rows -/
theorem s_ldR [hT : C1 P t] {s : Sl α} {ss : List (Sl α)} {r j : Nat} (hx : ev f x = pt s.A (j * sz)) [h : PcR L s (rws e2 ss) ss r put] [hE : Elt P e2 α I sz bytes] (h1 : j < s.xs.length) {v : Value} (hv : (I.enc (nth s.xs j))[0]? = some v)
    (hn : sO P n w0 f0 ops m rest QC (up f d v) L) (hd : Nat.blt d n = true := by rfl) : sO P n w0 f0 ops m (⟨some d, .load t x, ty, pos, after, none⟩ :: rest) QC f L := by
  intro w H
  obtain ⟨i, hi, _⟩ := h.at_
  have hq : r < ss.length := by
    apply Classical.byContradiction
    intro hn
    have := h.key
    rw [nth_out (by omega)] at this
    rw [← this] at h1
    exact absurd h1 (Nat.not_lt_zero _)
  obtain ⟨g, hg⟩ := rws.inner H hi hq
  rw [h.key] at hg
  obtain ⟨a, ha, hc⟩ := own.at hE hg h1 hv
  refine o_load hx ?_ (hn w H) hd
  rw [ha]
  exact ld1 hT.h hc
/-! .. of blocks -/
theorem s_ldB [hT : C1 P t] {b o : Nat} {u : α} (hx : ev f x = .pointer (some ⟨b, o, none⟩)) [h : PcB L b (var (I := I) e b u) put] {v : Value} (hv : (I.enc u)[o]? = some v)
    (hn : sO P n w0 f0 ops m rest QC (up f d v) L) (hd : Nat.blt d n = true := by rfl) : sO P n w0 f0 ops m (⟨some d, .load t x, ty, pos, after, none⟩ :: rest) QC f L := by
  intro w H
  obtain ⟨i, hi, _⟩ := h.at_
  exact o_ldB1 hT.h H i hi hx hv (hn w H) hd
theorem s_ldBA {q : Nat} [hT : CA P t q] {b o : Nat} {u : α} (hx : ev f x = .pointer (some ⟨b, o, none⟩)) [h : PcB L b (var (I := I) e b u) put] (hq : o + q ≤ I.sz)
    (hn : sO P n w0 f0 ops m rest QC (up f d (.agg (((I.enc u).drop o).take q).toArray)) L) (hd : Nat.blt d n = true := by rfl) : sO P n w0 f0 ops m (⟨some d, .load t x, ty, pos, after, none⟩ :: rest) QC f L := by
  intro w H
  obtain ⟨i, hi, _⟩ := h.at_
  exact o_ldBA hT.h H i hi hx (by rw [I.len]; exact hq) (hn w H) hd
theorem s_ldBW {q : Nat} [hT : CA P t q] {b : Nat} {u : α} (hx : ev f x = .pointer (some ⟨b, 0, none⟩)) [h : PcB L b (var (I := I) e b u) put] (hq : q = I.sz)
    (hn : sO P n w0 f0 ops m rest QC (up f d (.agg (I.enc u).toArray)) L) (hd : Nat.blt d n = true := by rfl) : sO P n w0 f0 ops m (⟨some d, .load t x, ty, pos, after, none⟩ :: rest) QC f L := by
  intro w H
  obtain ⟨i, hi, _⟩ := h.at_
  refine o_ldBA hT.h H i hi hx (by rw [I.len]; omega) ?_ hd
  rw [List.drop_zero, List.take_of_length_le (by rw [I.len]; omega)]
  exact hn w H
theorem s_ldRB [hT : C1 P t] {b o : Nat} {u : α} (hx : ev f x = .pointer (some ⟨b, o, none⟩)) [h : RdB (I := I) (okOf w0 f0) w0 b u] {v : Value} (hv : (I.enc u)[o]? = some v)
    (hn : sO P n w0 f0 ops m rest QC (up f d v) L) (hd : Nat.blt d n = true := by rfl) : sO P n w0 f0 ops m (⟨some d, .load t x, ty, pos, after, none⟩ :: rest) QC f L :=
  fun w H => o_ldS1 hT.h H h.h o (by rw [hx, add_spot rfl, Nat.zero_add]) hv (hn w H) hd
theorem s_ldRBA {q : Nat} [hT : CA P t q] {b o : Nat} {u : α} (hx : ev f x = .pointer (some ⟨b, o, none⟩)) [h : RdB (I := I) (okOf w0 f0) w0 b u] (hq : o + q ≤ I.sz)
    (hn : sO P n w0 f0 ops m rest QC (up f d (.agg (((I.enc u).drop o).take q).toArray)) L) (hd : Nat.blt d n = true := by rfl) : sO P n w0 f0 ops m (⟨some d, .load t x, ty, pos, after, none⟩ :: rest) QC f L :=
  fun w H => o_ldSA hT.h H h.h o (by rw [hx, add_spot rfl, Nat.zero_add]) (by rw [I.len]; exact hq) (hn w H) hd
end
end
section
open Go Go.RowKit

section
variable {w0 w : World} {f0 : FP} {L : List HP}
theorem St.head {X : HP} (H : St w0 f0 (L ++ [X]) w) : St w0 f0 (X :: L) w := by
  have := H.rot (L1 := L) (L2 := [X]); exact this
theorem St.last {X : HP} (H : St w0 f0 (X :: L) w) : St w0 f0 (L ++ [X]) w := by
  have : St w0 f0 ([X] ++ L) w := H
  exact this.rot
end

section
variable {P : Program} {n : Nat} {w0 w : World} {f0 : FP} {ops : Array Oper} {m : Bool} {rest : List Oper} {QC : Exit → Fr → World → Prop} {f : Fr} {L L1 L2 R : List HP} {x y z : Operand}
variable {d : Tmp} {ty t yt e e2 : TypeId} {pos pos' : String} {after after' : Array Edge} {α : Type} {I : Enc α} {sz bytes : Nat} {A A2 : Option Addr} {l c l2 c2 : Nat} {xs ys : List α} {put : HP → List HP} {X : HP}

theorem enc_len1 {u : α} {v : Value} (h : v.cells.toList = I.enc u) : v.cells.size = I.sz := by rw [← Array.length_toList, h, I.len]

/-! laying -/
theorem s_alloc [hE : Elt P t α I sz bytes] (hn : ∀ b, sO P n w0 f0 ops false rest QC (up f d (.pointer (some ⟨b, 0, none⟩))) (var (I := I) t b I.dflt :: L)) (hd : Nat.blt d n = true := by rfl) : sO P n w0 f0 ops false (⟨some d, .alloc t, ty, pos, after, none⟩ :: rest) QC f L := by
  intro w H
  obtain ⟨zv, hTI, hz⟩ := hE.ex
  refine o_alloc hTI.zero H (fun b w' H' => ?_) hd
  rw [hz] at H'
  exact hn b w' H'.head
theorem s_box (u : α) [hE : Elt P t α I sz bytes] (hu : (ev f x).cells.toList = I.enc u) (hn : ∀ b, sO P n w0 f0 ops false rest QC (up f d (.pointer (some ⟨b, 0, none⟩))) (var (I := I) t b u :: L)) (hd : Nat.blt d n = true := by rfl) : sO P n w0 f0 ops false (⟨some d, .box t x, ty, pos, after, none⟩ :: rest) QC f L := by
  intro w H
  refine o_box rfl H (fun b w' H' => ?_) hd
  rw [hu] at H'
  exact hn b w' H'.head
theorem rep_flat (k : Nat) : (List.replicate k (I.enc I.dflt)).flatten = (List.replicate k I.dflt).flatMap I.enc := by
  rw [List.flatMap_def, List.map_replicate]
theorem s_make [hs : SlT P t e] [hE : Elt P e α I sz bytes] {k : Nat} {q q' : IntKind} (hx : ev f x = .int q (k : Int)) (hy : ev f y = .int q' (k : Int)) (hb : k * bytes ≤ 281474976710656)
    (hn : ∀ b, sO P n w0 f0 ops false rest QC (up f d (.slice (some ⟨b, 0, none⟩) k k)) (own (I := I) e (some ⟨b, 0, none⟩) k k (List.replicate k I.dflt) :: L)) (hd : Nat.blt d n = true := by rfl) : sO P n w0 f0 ops false (⟨some d, .makeSlice t x y, ty, pos, after, none⟩ :: rest) QC f L := by
  intro w H
  obtain ⟨zv, hTI, hz⟩ := hE.ex
  refine o_make hs.u hTI hx hy hb H (fun b w' H' => ?_) hd
  have e1 : (madeCells zv.cells (k * sz)).toList = (List.replicate k I.dflt).flatMap I.enc := by
    rw [← hTI.zs, made_flat, hz, rep_flat]
  rw [e1] at H'
  have e2 : row (some ⟨b, 0, none⟩) k k e sz ((List.replicate k I.dflt).flatMap I.enc) = own (I := I) e (some ⟨b, 0, none⟩) k k (List.replicate k I.dflt) := by unfold own; rw [hE.sz_eq]
  rw [e2] at H'
  exact hn b w' H'.head
theorem s_makeI [hs : SlT P t e] [hE : Elt P e α I sz bytes] {k : Int} {q q' : IntKind} (hx : ev f x = .int q k) (hy : ev f y = .int q' k) (h0 : 0 ≤ k) (hb : k.toNat * bytes ≤ 281474976710656)
    (hn : ∀ b, sO P n w0 f0 ops false rest QC (up f d (.slice (some ⟨b, 0, none⟩) k.toNat k.toNat)) (own (I := I) e (some ⟨b, 0, none⟩) k.toNat k.toNat (List.replicate k.toNat I.dflt) :: L)) (hd : Nat.blt d n = true := by rfl) : sO P n w0 f0 ops false (⟨some d, .makeSlice t x y, ty, pos, after, none⟩ :: rest) QC f L :=
  s_make (k := k.toNat) (by rw [Int.toNat_of_nonneg h0]; exact hx) (by rw [Int.toNat_of_nonneg h0]; exact hy) hb hn hd

/-! literals -/
theorem fold_enc : ∀ (us : List α) (k : Nat) (cs : List Value), cs.length = (k + us.length) * I.sz → ((us.zipIdx k).map fun p => (p.2, I.enc p.1)).foldl (fun cs p => lay cs (p.1 * I.sz) p.2) cs = cs.take (k * I.sz) ++ us.flatMap I.enc
  | [], k, cs, h => by
    simp at h
    rw [← h]; simp
  | u :: us, k, cs, h => by
    rw [List.zipIdx_cons, List.map_cons, List.foldl_cons]
    have hl := I.len u
    have hk : k * I.sz + I.sz ≤ cs.length := by
      rw [h, ← Nat.succ_mul]; exact Nat.mul_le_mul_right _ (by simp)
    have h2 : (lay cs (k * I.sz) (I.enc u)).length = cs.length := by unfold lay; simp [hl]; omega
    rw [fold_enc us (k + 1) _ (by rw [h2, h]; simp; congr 1; omega)]
    unfold lay
    rw [Nat.succ_mul, List.flatMap_cons]
    rw [List.take_left' (by simp [hl]; omega)]
    simp
theorem lit_own [hs : SlT P t e] [hE : Elt P e α I sz bytes] (us : List α) {len : Nat} {lp : List (Nat × Operand)} (hlen : len = us.length) (hl : len * sz ≤ 16777216)
    (hp : lp.map (fun p => (p.1, (ev f p.2).cells.toList)) = us.zipIdx.map (fun p => (p.2, I.enc p.1)))
    (H : St w0 f0 L w) (hd : Nat.blt d n = true) {Q : Fr → World → Prop} (h : ∀ b w', St w0 f0 (own (I := I) e (some ⟨b, 0, none⟩) len len us :: L) w' → wO P ops n false rest Q (up f d (.slice (some ⟨b, 0, none⟩) len len)) w') :
    wO P ops n false (⟨some d, .buildSlice t len lp.toArray, ty, pos, after, none⟩ :: rest) Q f w := by
  obtain ⟨zv, hTI, hz⟩ := hE.ex
  have hfit : ∀ p ∈ lp.map (fun p => (p.1, ev f p.2)), p.1 < len ∧ p.2.cells.size = sz := by
    intro p hp'
    obtain ⟨q, hq, rfl⟩ := List.mem_map.1 hp'
    have : (q.1, (ev f q.2).cells.toList) ∈ us.zipIdx.map (fun p => (p.2, I.enc p.1)) := by rw [← hp]; exact List.mem_map.2 ⟨q, hq, rfl⟩
    obtain ⟨r, hr, er⟩ := List.mem_map.1 this
    have h1 : r.2 = q.1 := congrArg Prod.fst er
    have h2 : I.enc r.1 = (ev f q.2).cells.toList := congrArg Prod.snd er
    obtain ⟨hr2, _⟩ := List.mem_zipIdx' (x := r.1) (i := r.2) hr
    refine ⟨by show q.1 < len; omega, ?_⟩
    show (ev f q.2).cells.size = sz
    rw [enc_len1 h2.symm, hE.sz_eq]
  refine o_lit (pv := lp.map fun p => (p.1, ev f p.2)) (cells := us.flatMap I.enc) hs.u hTI hl rfl hfit ?_ H (fun b w' H' => ?_) hd
  · have h3 : (lp.map fun p => (p.1, ev f p.2)).foldl (fun cs p => lay cs (p.1 * sz) p.2.cells.toList) (List.replicate len zv.cells.toList).flatten = (lp.map (fun p => (p.1, (ev f p.2).cells.toList))).foldl (fun cs p => lay cs (p.1 * I.sz) p.2) (List.replicate len zv.cells.toList).flatten := by
      rw [hE.sz_eq, List.foldl_map, List.foldl_map]
    rw [h3, hp, fold_enc us 0 _ (by rw [hz, rep_flat, flat_len (fun a _ => I.len a)]; simp [hlen])]
    simp
  · have e2 : row (some ⟨b, 0, none⟩) len len e sz (us.flatMap I.enc) = own (I := I) e (some ⟨b, 0, none⟩) len len us := by unfold own; rw [hE.sz_eq]
    rw [e2] at H'
    exact h b w' H'.head
theorem s_lit (us : List α) [hs : SlT P t e] [hE : Elt P e α I sz bytes] {len : Nat} {lp : List (Nat × Operand)} (hlen : len = us.length) (hl : len * sz ≤ 16777216)
    (hp : lp.map (fun p => (p.1, (ev f p.2).cells.toList)) = us.zipIdx.map (fun p => (p.2, I.enc p.1)))
    (hn : ∀ b, sO P n w0 f0 ops false rest QC (up f d (.slice (some ⟨b, 0, none⟩) len len)) (own (I := I) e (some ⟨b, 0, none⟩) len len us :: L)) (hd : Nat.blt d n = true := by rfl) :
    sO P n w0 f0 ops false (⟨some d, .buildSlice t len lp.toArray, ty, pos, after, none⟩ :: rest) QC f L :=
  fun w H => lit_own us hlen hl hp H hd fun b w' H' => hn b w' H'
theorem s_build {cells : List Value} {lp : List (Nat × Operand)} (pv : List (Nat × Value)) (hv : lp.map (fun p => (p.1, ev f p.2)) = pv) (hb : P.built t pv = some cells.toArray) (h : sO P n w0 f0 ops m rest QC (up f d (.agg cells.toArray)) L) (hd : Nat.blt d n = true := by rfl) :
    sO P n w0 f0 ops m (⟨some d, .build t lp.toArray, ty, pos, after, none⟩ :: rest) QC f L := fun w H => o_build hv hb (h w H) hd

/-! writing -/
theorem Pc.st (h : Pc L A X put) (H : St w0 f0 L w) : ∃ (i : Nat) (f1 : FP), L[i]? = some X ∧ X.sat w f1 ∧ ∀ (w' : World) (A' : HP) (g1 : FP), Step w f1 w' → A'.sat w' g1 → (∀ b, g1 b → f1 b ∨ w.heap.size ≤ b) → St w0 f0 (put A') w' := by
  obtain ⟨i, h1, h2⟩ := h.at_
  obtain ⟨f1, hA, _, hB⟩ := H.focus i h1
  exact ⟨i, f1, h1, hA, fun w' A' g1 a b c => by rw [h2]; exact hB w' A' g1 a b c⟩
theorem own.set (hE : Elt P e2 α I sz bytes) {a : Addr} {f1 : FP} (hA : (own (I := I) e2 (some a) l c xs).sat w f1) {j : Nat} (hj : j < l) (u : α) :
    ∃ w', (storeCells (a.add (j * sz)) (I.enc u)).run P w = .ok () w' ∧ (own (I := I) e2 (some a) l c (xs.set j u)).sat w' f1 ∧ Step w f1 w' := by
  have hl := own.len hA
  have hle : j * sz + (I.enc u).length ≤ (xs.flatMap I.enc).length := by
    rw [flat_len (fun a _ => I.len a), I.len, hE.sz_eq, hl.1, ← Nat.succ_mul]
    exact Nat.mul_le_mul_right _ hj
  obtain ⟨w', hrun, hs, hst⟩ := row.put (P := P) (show (row (some a) l c e2 I.sz (xs.flatMap I.enc)).sat w f1 from hA) (j * sz) (I.enc u) hle (fun v hv => I.one u v hv)
  rw [← hE.sz_eq, flat_set (fun a _ => I.len a) (by omega) (I.len u)] at hs
  exact ⟨w', hrun, hs, hst⟩
theorem s_st (u : α) [hE : Elt P t α I sz bytes] {j : Nat} (hx : ev f x = pt A (j * sz)) [h : Pc L A (own (I := I) e2 A l c xs) put] (hu : (ev f y).cells.toList = I.enc u) (h1 : j < l)
    (hn : sO P n w0 f0 ops false rest QC f (put (own (I := I) e2 A l c (xs.set j u)))) : sO P n w0 f0 ops false (⟨none, .store t x y, ty, pos, after, none⟩ :: rest) QC f L := by
  intro w H
  obtain ⟨i, f1, hi, hA, hB⟩ := h.st H
  obtain ⟨a, rfl, _⟩ := row.adr (show (row A l c e2 I.sz (xs.flatMap I.enc)).sat w f1 from hA) (by omega)
  obtain ⟨zv, hTI, _⟩ := hE.ex
  have hle : j * sz + (I.enc u).length ≤ (xs.flatMap I.enc).length := by
    rw [flat_len (fun a _ => I.len a), I.len, hE.sz_eq, (own.len hA).1, ← Nat.succ_mul]
    exact Nat.mul_le_mul_right _ h1
  obtain ⟨w', hrun, hs, hst⟩ := row.put (P := P) (show (row (some a) l c e2 I.sz (xs.flatMap I.enc)).sat w f1 from hA) (j * sz) (I.enc u) hle (fun v hv => I.one u v hv)
  rw [← hE.sz_eq, flat_set (fun a _ => I.len a) (by have := (own.len hA).1; omega) (I.len u)] at hs
  refine o_skp (w' := w') rfl rfl ?_ (hn w' (hB w' _ f1 hst hs fun b hb => .inl hb))
  have hx' : ev f x = .pointer (some (a.add (j * sz))) := hx
  have hsz : (sizeOf t).run P w = .ok (ev f y).cells.size w := by rw [hTI.size, enc_len1 hu, hE.sz_eq]
  rw [← hu] at hrun
  simp [execOp, hx', Instr.storeAt, Instr.sureAddr, storeVar, hsz, hrun]
theorem s_stF (u : α) {o : Nat} {v : Value} [hT : C1 P t] {j : Nat} (hx : ev f x = pt A (j * sz + o)) [h : Pc L A (own (I := I) e2 A l c xs) put] [hE : Elt P e2 α I sz bytes] (hv : (ev f y).cells.toList = [v]) (hu : (I.enc (nth xs j)).set o v = I.enc u) (ho : o < sz) (h1 : j < l)
    (hn : sO P n w0 f0 ops false rest QC f (put (own (I := I) e2 A l c (xs.set j u)))) : sO P n w0 f0 ops false (⟨none, .store t x y, ty, pos, after, none⟩ :: rest) QC f L := by
  intro w H
  obtain ⟨i, f1, hi, hA, hB⟩ := h.st H
  obtain ⟨a, rfl, _⟩ := row.adr (show (row A l c e2 I.sz (xs.flatMap I.enc)).sat w f1 from hA) (by omega)
  have hxl := (own.len hA).1
  have hfl : (xs.flatMap I.enc).length = l * sz := by rw [flat_len (fun a _ => I.len a), hE.sz_eq, hxl]
  have hjl : j * sz + sz ≤ l * sz := by rw [← Nat.succ_mul]; exact Nat.mul_le_mul_right _ h1
  have hvo : v.oneCell' = true := I.one u v (by rw [← hu]; exact List.mem_set (by rw [I.len, hE.sz_eq]; exact ho) v)
  obtain ⟨w', hrun, hs, hst⟩ := row.put (P := P) (show (row (some a) l c e2 I.sz (xs.flatMap I.enc)).sat w f1 from hA) (j * sz + o) [v] (by simp [hfl]; omega) (fun v' hv' => by simp at hv'; subst hv'; exact hvo)
  have e1 : lay (xs.flatMap I.enc) (j * sz + o) [v] = (xs.set j u).flatMap I.enc := by
    rw [lay_one _ _ _ (by omega), ← hE.sz_eq, ← flat_set (fun a _ => I.len a) (by omega) (I.len u), ← hu]
    apply List.ext_getElem?
    intro q
    unfold lay
    rw [List.length_set, I.len]
    have hat := flat_drop (f := I.enc) (sz := I.sz) (l := xs) (fun a _ => I.len a) j
    have hszp : o < I.sz := by rw [hE.sz_eq]; exact ho
    have hfl' : (xs.flatMap I.enc).length = l * I.sz := by rw [hfl, hE.sz_eq]
    have hjl' : j * I.sz + I.sz ≤ l * I.sz := by rw [hE.sz_eq]; exact hjl
    rw [List.append_assoc]
    rcases Nat.lt_or_ge q (j * I.sz) with hq | hq
    · rw [List.getElem?_set_ne (by omega), List.getElem?_append_left (by rw [List.length_take, hfl']; omega), List.getElem?_take_of_lt hq]
    · rw [List.getElem?_append_right (by rw [List.length_take, hfl']; omega)]
      have e2 : ((xs.flatMap I.enc).take (j * I.sz)).length = j * I.sz := by rw [List.length_take, hfl']; omega
      rw [e2]
      rcases Nat.lt_or_ge q (j * I.sz + I.sz) with hq2 | hq2
      · rw [List.getElem?_append_left (by rw [List.length_set, I.len]; omega)]
        by_cases hqo : q = j * I.sz + o
        · subst hqo
          rw [List.getElem?_set_self (by omega), Nat.add_sub_cancel_left, List.getElem?_set_self (by rw [I.len]; exact hszp)]
        · rw [List.getElem?_set_ne (Ne.symm hqo), List.getElem?_set_ne (by omega)]
          have := flat_get (f := I.enc) (sz := I.sz) (l := xs) (fun a _ => I.len a) (nth_some (xs := xs) (i := j) (by omega)) (o := q - j * I.sz) (by omega)
          rw [← this]; congr 1; omega
      · rw [List.getElem?_append_right (by rw [List.length_set, I.len]; omega), List.getElem?_set_ne (by omega), List.length_set, I.len, List.getElem?_drop]
        congr 1; omega
  rw [e1] at hs
  refine o_skp (w' := w') rfl rfl ?_ (hn w' (hB w' _ f1 hst hs fun b hb => .inl hb))
  have hx' : ev f x = .pointer (some (a.add (j * sz + o))) := hx
  have hsz : (sizeOf t).run P w = .ok (ev f y).cells.size w := by rw [hT.h.sz, ← Array.length_toList, hv]; rfl
  rw [← hv] at hrun
  simp [execOp, hx', Instr.storeAt, Instr.sureAddr, storeVar, hsz, hrun]
theorem PcB.st {b : Nat} (h : PcB L b X put) (H : St w0 f0 L w) : ∃ i, L[i]? = some X ∧ ∀ Y w', St w0 f0 (L.set i Y) w' → St w0 f0 (put Y) w' := by
  obtain ⟨i, h1, h2⟩ := h.at_
  exact ⟨i, h1, fun Y w' h => by rw [h2]; exact h⟩
/-- a field of a block -/
theorem s_stB (u' : α) {b o : Nat} {u : α} {v : Value} [hT : C1 P t] (hx : ev f x = .pointer (some ⟨b, o, none⟩)) [h : PcB L b (var (I := I) e b u) put] (hv : (ev f y).cells.toList = [v]) (hu : (I.enc u).set o v = I.enc u') (ho : o < I.sz)
    (hn : sO P n w0 f0 ops false rest QC f (put (var (I := I) e b u'))) : sO P n w0 f0 ops false (⟨none, .store t x y, ty, pos, after, none⟩ :: rest) QC f L := by
  intro w H
  obtain ⟨i, hi, hB⟩ := h.st H
  have hvo : v.oneCell' = true := I.one u' v (by rw [← hu]; exact List.mem_set (by rw [I.len]; exact ho) v)
  refine o_stB (v := ev f y) (fun w => by rw [hT.h.sz, ← Array.length_toList, hv]; rfl) H i hi hx rfl (by rw [hv, I.len]; simp; omega) (fun u hu' => by rw [hv] at hu'; simp at hu'; subst hu'; exact hvo) fun w' H' => ?_
  rw [hv, lay_one _ _ _ (by rw [I.len]; exact ho), hu] at H'
  exact hn w' (hB _ w' H')
/-- all of a block -/
theorem s_stW (u' : α) {b : Nat} {u : α} [hE : Elt P t α I sz bytes] (hx : ev f x = .pointer (some ⟨b, 0, none⟩)) [h : PcB L b (var (I := I) e b u) put] (hu : (ev f y).cells.toList = I.enc u')
    (hn : sO P n w0 f0 ops false rest QC f (put (var (I := I) e b u'))) : sO P n w0 f0 ops false (⟨none, .store t x y, ty, pos, after, none⟩ :: rest) QC f L := by
  intro w H
  obtain ⟨i, hi, hB⟩ := h.st H
  obtain ⟨zv, hTI, _⟩ := hE.ex
  refine o_stB (v := ev f y) (fun w => by rw [hTI.size, enc_len1 hu, hE.sz_eq]) H i hi hx rfl (by rw [hu, I.len, I.len]; omega) (fun u hu' => by rw [hu] at hu'; exact I.one _ _ hu') fun w' H' => ?_
  rw [hu, lay_all _ _ (by rw [I.len, I.len])] at H'
  exact hn w' (hB _ w' H')
/-- many cells of a block -/
theorem s_stBF (u' : α) {q : Nat} {b o : Nat} {u : α} [hT : CA P t q] (hx : ev f x = .pointer (some ⟨b, o, none⟩)) [h : PcB L b (var (I := I) e b u) put] (hq : (ev f y).cells.size = q) (hu : lay (I.enc u) o (ev f y).cells.toList = I.enc u') (ho : o + q ≤ I.sz)
    (hn : sO P n w0 f0 ops false rest QC f (put (var (I := I) e b u'))) : sO P n w0 f0 ops false (⟨none, .store t x y, ty, pos, after, none⟩ :: rest) QC f L := by
  intro w H
  obtain ⟨i, hi, hB⟩ := h.st H
  refine o_stB (v := ev f y) (fun w => by rw [hT.h.sz, hq]) H i hi hx rfl (by rw [Array.length_toList, hq, I.len]; exact ho) (fun u'' hu'' => ?_) fun w' H' => ?_
  · refine I.one u' u'' ?_
    rw [← hu]; unfold lay
    simp [hu'']
  · rw [hu] at H'
    exact hn w' (hB _ w' H')

/-! appending -/
theorem app_own [hs : SlT P t e] [hE : Elt P e α I sz bytes] (h : Pc L A (own (I := I) e A l c xs) put) (H : St w0 f0 L w) {fr : Fr} (hx : ev fr x = .slice A l c) {tx : TypeId} {k : Nat} (hsrc : Src P sz tx (ev fr y) k (ys.flatMap I.enc) w) (hb : (l + k) * bytes ≤ 140737488355328)
    {Q : Fr → World → Prop} (hd : Nat.blt d n = true) (hn : ∀ A' c' w', St w0 f0 (put (own (I := I) e A' (l + k) c' (xs ++ ys))) w' → wO P ops n false rest Q (up fr d (.slice A' (l + k) c')) w') :
    wO P ops n false (⟨some d, .call { callee := .builtin .append, args := #[x, y], argTypes := #[t, tx] }, ty, pos, after, none⟩ :: rest) Q fr w := by
  obtain ⟨zv, hTI, _⟩ := hE.ex
  obtain ⟨i, h1, h2⟩ := h.at_
  have h1' : L[i]? = some (row A l c e sz (xs.flatMap I.enc)) := by rw [h1, ← hE.sz_eq]; rfl
  refine o_app hs.u hTI H i h1' hx hsrc hb (fun A' c' w' H' => hn A' c' w' ?_) hd
  have e1 : own (I := I) e A' (l + k) c' (xs ++ ys) = row A' (l + k) c' e sz (xs.flatMap I.enc ++ ys.flatMap I.enc) := by unfold own; rw [hE.sz_eq, List.flatMap_append]
  rw [h2, e1]; exact H'
/-- one element -/
theorem s_app1 (u : α) {b : Tmp} {pos1 : String} {after1 : Array Edge} {ty1 : TypeId} [hs : SlT P t e] [hE : Elt P e α I sz bytes] (hx : ∀ v, ev (up f b v) x = .slice A l c) [h : Pc L A (own (I := I) e A l c xs) put] (hu : (ev f y).cells.toList = I.enc u) (hb : (l + 1) * bytes ≤ 140737488355328)
    (hn : ∀ v A' c', sO P n w0 f0 ops false rest QC (up (up f b v) d (.slice A' (l + 1) c')) (put (own (I := I) e A' (l + 1) c' (xs ++ [u])))) (hd : Nat.blt d n = true := by rfl) (hdb : Nat.blt b n = true := by rfl) (hsz : 1 * sz ≤ 16777216 := by decide) :
    sO P n w0 f0 ops false (⟨some b, .buildSlice t 1 #[(0, y)], ty1, pos1, after1, none⟩ :: ⟨some d, .call { callee := .builtin .append, args := #[x, .tmp b], argTypes := #[t, t] }, ty, pos, after, none⟩ :: rest) QC f L := by
  intro w H
  refine lit_own (lp := [(0, y)]) (ty := ty1) [u] rfl hsz (by simp [hu]) H hdb fun q w' H' => ?_
  have hP : Pc (own (I := I) e (some ⟨q, 0, none⟩) 1 1 [u] :: L) A (own (I := I) e A l c xs) (fun Y => own (I := I) e (some ⟨q, 0, none⟩) 1 1 [u] :: put Y) := pc_next
  obtain ⟨g, hA, _⟩ := H'.focus 0 rfl
  have hsrc := Src.row (P := P) hs.u (show (row (some ⟨q, 0, none⟩) 1 1 e I.sz ([u].flatMap I.enc)).sat w' g from hA) (fun u' hu' => by simp at hu'; exact I.one _ _ hu')
  rw [hE.sz_eq] at hsrc
  refine app_own (ys := [u]) hP H' (hx _) (k := 1) (by show Src P sz t (up f b _ b) 1 _ w'; unfold up; rw [Nat.beq_refl]; exact hsrc) hb hd fun A' c' w2 H2 => ?_
  exact hn _ A' c' w2 (H2.drop 0)
/-- one element, behind nothing -/
theorem s_app1N (u : α) {b : Tmp} {pos1 : String} {after1 : Array Edge} {ty1 : TypeId} [hs : SlT P t e] [hE : Elt P e α I sz bytes] (hx : ∀ v, ev (up f b v) x = .slice none 0 0) (hu : (ev f y).cells.toList = I.enc u) (hb : 1 * bytes ≤ 140737488355328)
    (hn : ∀ v A' c', sO P n w0 f0 ops false rest QC (up (up f b v) d (.slice A' 1 c')) (own (I := I) e A' 1 c' [u] :: L)) (hd : Nat.blt d n = true := by rfl) (hdb : Nat.blt b n = true := by rfl) (hsz : 1 * sz ≤ 16777216 := by decide) :
    sO P n w0 f0 ops false (⟨some b, .buildSlice t 1 #[(0, y)], ty1, pos1, after1, none⟩ :: ⟨some d, .call { callee := .builtin .append, args := #[x, .tmp b], argTypes := #[t, t] }, ty, pos, after, none⟩ :: rest) QC f L := by
  have key : sO P n w0 f0 ops false (⟨some b, .buildSlice t 1 #[(0, y)], ty1, pos1, after1, none⟩ :: ⟨some d, .call { callee := .builtin .append, args := #[x, .tmp b], argTypes := #[t, t] }, ty, pos, after, none⟩ :: rest) QC f (own (I := I) e none 0 0 [] :: L) :=
    s_app1 u (xs := []) (h := pc_here) hx hu (by omega) (fun v A' c' => by simpa using hn v A' c') hd hdb hsz
  exact fun w H => key w (H.addNil e I.sz).head
/-- a row more; what is appended stays -/
theorem s_appO [hs : SlT P t e] [hE : Elt P e α I sz bytes] (hx : ev f x = .slice A l c) [h : Pc L A (own (I := I) e A l c xs) put] {put2 : HP → List HP} (hy : ev f y = .slice A2 l2 c2) [h2 : Pc L A2 (own (I := I) e2 A2 l2 c2 ys) put2] (hb : (l + l2) * bytes ≤ 140737488355328)
    (hn : ∀ A' c', sO P n w0 f0 ops false rest QC (up f d (.slice A' (l + l2) c')) (put (own (I := I) e A' (l + l2) c' (xs ++ ys)))) (hd : Nat.blt d n = true := by rfl) :
    sO P n w0 f0 ops false (⟨some d, .call { callee := .builtin .append, args := #[x, y], argTypes := #[t, t] }, ty, pos, after, none⟩ :: rest) QC f L := by
  intro w H
  obtain ⟨i, g, hi, hA, _⟩ := h2.st H
  have hsrc := Src.row (P := P) hs.u (show (row A2 l2 c2 e2 I.sz (ys.flatMap I.enc)).sat w g from hA) (fun u' hu' => by
    obtain ⟨a, _, ha⟩ := List.mem_flatMap.1 hu'; exact I.one _ _ ha)
  rw [hE.sz_eq] at hsrc
  exact app_own h H hx (by rw [hy]; exact hsrc) hb hd fun A' c' w2 H2 => hn A' c' w2 H2
/-- .. of what is only read -/
theorem s_appS [hs : SlT P t e] [hE : Elt P e α I sz bytes] [Dp α] {s : Sl α} (hx : ev f x = .slice A l c) [h : Pc L A (own (I := I) e A l c xs) put] (hy : ev f y = .slice s.A s.xs.length s.c) [h2 : RdD (okOf w0 f0) w0 s] (hb : (l + s.xs.length) * bytes ≤ 140737488355328)
    (hn : ∀ A' c', sO P n w0 f0 ops false rest QC (up f d (.slice A' (l + s.xs.length) c')) (put (own (I := I) e A' (l + s.xs.length) c' (xs ++ s.xs)))) (hd : Nat.blt d n = true := by rfl) :
    sO P n w0 f0 ops false (⟨some d, .call { callee := .builtin .append, args := #[x, y], argTypes := #[t, t] }, ty, pos, after, none⟩ :: rest) QC f L := by
  intro w H
  have hR := h2.h.1
  unfold RdSl at hR
  rw [hE.sz_eq] at hR
  have hsrc := Src.rd (P := P) hs.u (hR.loc H.ok0) (fun u' hu' => by
    obtain ⟨a, _, ha⟩ := List.mem_flatMap.1 hu'; exact I.one _ _ ha)
  exact app_own h H hx (by rw [hy]; exact hsrc) hb hd fun A' c' w2 H2 => hn A' c' w2 H2
theorem s_appSN [hs : SlT P t e] [hE : Elt P e α I sz bytes] [Dp α] {s : Sl α} (hx : ev f x = .slice none 0 0) (hy : ev f y = .slice s.A s.xs.length s.c) [h2 : RdD (okOf w0 f0) w0 s] (hb : s.xs.length * bytes ≤ 140737488355328)
    (hn : ∀ A' c', sO P n w0 f0 ops false rest QC (up f d (.slice A' s.xs.length c')) (own (I := I) e A' s.xs.length c' s.xs :: L)) (hd : Nat.blt d n = true := by rfl) :
    sO P n w0 f0 ops false (⟨some d, .call { callee := .builtin .append, args := #[x, y], argTypes := #[t, t] }, ty, pos, after, none⟩ :: rest) QC f L := by
  have key : sO P n w0 f0 ops false (⟨some d, .call { callee := .builtin .append, args := #[x, y], argTypes := #[t, t] }, ty, pos, after, none⟩ :: rest) QC f (own (I := I) e none 0 0 [] :: L) :=
    s_appS (xs := []) (h := pc_here) hx hy (by rw [Nat.zero_add]; exact hb) (fun A' c' => by simpa using hn A' c') hd
  exact fun w H => key w (H.addNil e I.sz).head

/-! cuts: the row is what is left -/
theorem s_cutL [hs : SlT P t e] [hE : Elt P e α I sz bytes] {k : IntKind} {j : Nat} (hx : ev f x = .slice A l c) (hy : ev f y = .int k (j : Int)) [h : Pc L A (own (I := I) e2 A l c xs) put] (h1 : j ≤ l)
    (hn : ∀ A', sO P n w0 f0 ops m rest QC (up f d (.slice A' (l - j) (c - j))) (put (own (I := I) e2 A' (l - j) (c - j) (xs.drop j)))) (hd : Nat.blt d n = true := by rfl) : sO P n w0 f0 ops m (⟨some d, .slice t x (some y) none none, ty, pos, after, none⟩ :: rest) QC f L := by
  intro w H
  obtain ⟨zv, hTI, _⟩ := hE.ex
  obtain ⟨i, g, hi, hA, hB⟩ := h.st H
  have hl := own.len hA
  have h3 := row.cutL (show (row A l c e2 I.sz (xs.flatMap I.enc)).sat w g from hA) j h1
  rw [flat_drop (fun a _ => I.len a), hE.sz_eq] at h3
  have hg := hB w (own (I := I) e2 (if c = j then A else A.map (·.add (j * sz))) (l - j) (c - j) (xs.drop j)) g (Step.refl _ _) (by unfold own; rw [hE.sz_eq]; exact h3) (fun b hb => .inl hb)
  exact o_cutL hs.u hTI hx hy (by omega) (by omega) (hn _ w hg) hd
theorem s_cutH [hs : SlT P t e] [hE : Elt P e α I sz bytes] {k : IntKind} {j : Int} (hx : ev f x = .slice A l c) (hy : ev f y = .int k j) [h : Pc L A (own (I := I) e2 A l c xs) put] (h0 : 0 ≤ j) (h1 : j ≤ l)
    (hn : sO P n w0 f0 ops m rest QC (up f d (.slice A j.toNat c)) (put (own (I := I) e2 A j.toNat c (xs.take j.toNat)))) (hd : Nat.blt d n = true := by rfl) : sO P n w0 f0 ops m (⟨some d, .slice t x none (some y) none, ty, pos, after, none⟩ :: rest) QC f L := by
  intro w H
  obtain ⟨zv, hTI, _⟩ := hE.ex
  obtain ⟨i, g, hi, hA, hB⟩ := h.st H
  have hl := own.len hA
  have h3 := row.cutH (show (row A l c e2 I.sz (xs.flatMap I.enc)).sat w g from hA) j.toNat (by omega)
  have e3 : (xs.flatMap I.enc).take (j.toNat * I.sz) = (xs.take j.toNat).flatMap I.enc := by
    conv => lhs; rw [← List.take_append_drop j.toNat xs, List.flatMap_append]
    rw [List.take_left' (by rw [flat_len (fun a _ => I.len a), List.length_take]; congr 1; omega)]
  rw [e3] at h3
  have hg := hB w (own (I := I) e2 A j.toNat c (xs.take j.toNat)) g (Step.refl _ _) h3 (fun b hb => .inl hb)
  exact o_cutH hs.u hTI hx hy h0 (by omega) (hn w hg) hd

/-! calls -/
class IsFc (P : Program) (g : FuncId) : Prop where
  ex : ∃ fn, IsF P g fn
def Spec (P : Program) (g : FuncId) (vs : List Value) (L1 : List HP) (Rd : FP → World → Prop) (R : Value → List HP → Prop) : Prop :=
  ∀ w1 f1, SF L1 w1 f1 → Rd (okOf w1 f1) w1 → CallsV P g vs.toArray w1 fun v w' => ∃ L', R v L' ∧ St w1 f1 L' w'
structure Ctx (w0 : World) (f0 : FP) (L1 L2 : List HP) (w1 : World) (f1 : FP) : Prop where
  st : St w0 f0 (L1 ++ L2) w1
  fp : ∀ b, f1 b → f0 b ∨ w0.heap.size ≤ b
  sf : ∃ f2, SF L2 w1 f2 ∧ ∀ b, f1 b → ¬ f2 b
theorem Ctx.rd {w1 : World} {f1 : FP} (h : Ctx w0 f0 L1 L2 w1 f1) {β : Type} [Enc β] [Dp β] {v : β} (k : RdD (okOf w0 f0) w0 v) : RdD (okOf w1 f1) w1 v := k.loc (h.st.ok h.fp)
theorem Ctx.rdB {w1 : World} {f1 : FP} (h : Ctx w0 f0 L1 L2 w1 f1) {b : Nat} {u : α} (k : RdB (I := I) (okOf w0 f0) w0 b u) : RdB (I := I) (okOf w1 f1) w1 b u := ⟨k.h.loc (h.st.ok h.fp)⟩
theorem Ctx.piece {w1 : World} {f1 : FP} (h : Ctx w0 f0 L1 L2 w1 f1) {i : Nat} (hi : L2[i]? = some X) : ∃ g, X.sat w1 g ∧ ∀ b, g b → okOf w1 f1 b := by
  obtain ⟨f2, h1, h2⟩ := h.sf
  obtain ⟨g1, g2, e1, _, e3, _⟩ := h1.focus i hi
  exact ⟨g1, e3, fun b hb => ⟨X.dom e3 b hb, fun hf => h2 b hf ((e1 b).2 (.inl hb))⟩⟩
theorem Ctx.rowd {w1 : World} {f1 : FP} (h : Ctx w0 f0 L1 L2 w1 f1) (A : Option Addr) [hp : Pc L2 A (own (I := I) e A l c xs) put] : xs.length = l ∧ RdSl (okOf w1 f1) w1 (⟨A, c, xs⟩ : Sl α) := by
  obtain ⟨i, h1, _⟩ := hp.at_
  obtain ⟨g, hg, hok⟩ := h.piece h1
  have hl := own.len hg
  refine ⟨hl.1, ?_⟩
  have := row.rd (show (row A l c e I.sz (xs.flatMap I.enc)).sat w1 g from hg) hok
  unfold RdSl
  rw [show (⟨A, c, xs⟩ : Sl α).xs.length = l from hl.1]
  exact this
theorem Ctx.ownI {w1 : World} {f1 : FP} (h : Ctx w0 f0 L1 L2 w1 f1) (A : Option Addr) [D : Dp α] [hp : Pc L2 A (own (I := I) e A l c xs) put] (hd : ∀ x ∈ xs, D.rd (okOf w1 f1) w1 x) : RdD (okOf w1 f1) w1 (⟨A, c, xs⟩ : Sl α) := ⟨(h.rowd A).2, hd⟩
theorem Ctx.var {w1 : World} {f1 : FP} (h : Ctx w0 f0 L1 L2 w1 f1) (b : Nat) {u : α} [hp : PcB L2 b (var (I := I) e b u) put] : RdB (I := I) (okOf w1 f1) w1 b u := by
  obtain ⟨i, h1, _⟩ := hp.at_
  obtain ⟨g, hg, hok⟩ := h.piece h1
  refine ⟨⟨hok b ((hg.1 b).2 rfl), fun j v hj => ?_⟩⟩
  rw [add_spot rfl]
  show w1.cell? ⟨b, 0 + j, none⟩ = some v
  rw [Nat.zero_add, blk.cell hg j]; exact hj

theorem s_call {d : Option Tmp} {g : FuncId} {vs : List Value} {Rd : FP → World → Prop} {RR : Value → List HP → Prop} {lo : List Operand} {ats : Array TypeId} (is : List Nat) (spec : Spec P g vs L1 Rd RR) [hF : IsFc P g] (hv : lo.map (ev f) = vs) (hL : pickL is L = (L1, L2))
    (hrd : ∀ w1 f1, Ctx w0 f0 L1 L2 w1 f1 → Rd (okOf w1 f1) w1) (hn : ∀ v L', RR v L' → sO P n w0 f0 ops false rest QC (upO f d v) (L' ++ L2)) (hd : dOk n d = true := by rfl) :
    sO P n w0 f0 ops false (⟨d, .call { callee := .value (.func g), args := lo.toArray, argTypes := ats }, ty, pos, after, none⟩ :: rest) QC f L := by
  intro w H
  obtain ⟨fn, hF⟩ := hF.ex
  have H2 := H.pick is
  rw [hL] at H2
  obtain ⟨f', hf, hfb⟩ := H2.sf
  obtain ⟨f1, f2, e1, e2, e3, e4⟩ := SF.app.1 hf
  have hb1 : ∀ b, f1 b → f0 b ∨ w0.heap.size ≤ b := fun b hb => hfb b ((e1 b).2 (.inl hb))
  refine o_callN hF hv (spec w f1 e3 (hrd w f1 ⟨H2, hb1, f2, e4, e2⟩)) (fun v w' ⟨L', hR, hs⟩ => hn v L' hR w' ?_) hd
  obtain ⟨hs1, g1, hg, hgb⟩ := hs
  refine ⟨H2.step.trans hs1 hb1, fun b => g1 b ∨ f2 b, SF.app.2 ⟨g1, f2, fun b => Iff.rfl, fun b hb hb2 => ?_, hg, e4.loc fun b hb => hs1.keep b (e4.dom b hb) fun h1 => e2 b h1 hb⟩, ?_⟩
  · rcases hgb b hb with h1 | h1
    · exact e2 b h1 hb2
    · exact absurd (e4.dom b hb2) (Nat.not_lt.2 h1)
  · rintro b (hb | hb)
    · rcases hgb b hb with h1 | h1
      · exact hb1 b h1
      · exact .inr (Nat.le_trans H2.step.size h1)
    · exact hfb b ((e1 b).2 (.inr hb))

def doneS (P : Program) (fn : Func) (w0 : World) (f0 : FP) (RR : Value → List HP → Prop) : Exit → Fr → World → Prop
  | .ret, f, w => ∃ v, resF P fn f w v ∧ ∃ L', RR v L' ∧ St w0 f0 L' w
  | .normal, f, w => ∃ v, resF P fn f w v ∧ ∃ L', RR v L' ∧ St w0 f0 L' w
  | _, _, _ => False
theorem spec_of {g : FuncId} {fn : Func} {c : Code} {vs : List Value} {Rd : FP → World → Prop} {RR : Value → List HP → Prop} (hf : P.funcs[g]? = some fn) (hb : fn.body = some c) (hn : Nat.ble vs.length fn.ntmps = true)
    (h : ∀ w0 f0, Rd (okOf w0 f0) w0 → sC P fn.ntmps w0 f0 c (doneS P fn w0 f0 RR) (fr0 vs) L1) : Spec P g vs L1 Rd RR := by
  intro w1 f1 hs hr
  refine calls_ofG hf hb hn (wC_mono (h w1 f1 hr w1 (St.start hs)) ?_)
  intro e f w q
  cases e <;> exact q
theorem e_done {fn : Func} {RR : Value → List HP → Prop} {t : Tmp} (hr : fn.results = #[.tmp t]) (ht : Nat.blt t fn.ntmps = true) (L' : List HP) (hL : PSub w0 f0 L L') (hR : RR (f t) L') : sE w0 f0 (doneS P fn w0 f0 RR) .ret f L :=
  fun w H => ⟨f t, fun a ha => by rw [results_tmp hr, ha.get (by rw [← Nat.blt_eq]; exact ht)], L', hR, hL w H⟩
theorem e_doneN {fn : Func} {RR : Value → List HP → Prop} {t : Tmp} (hr : fn.results = #[.tmp t]) (ht : Nat.blt t fn.ntmps = true) (L' : List HP) (hL : PSub w0 f0 L L') (hR : RR (f t) L') : sE w0 f0 (doneS P fn w0 f0 RR) .normal f L :=
  fun w H => ⟨f t, fun a ha => by rw [results_tmp hr, ha.get (by rw [← Nat.blt_eq]; exact ht)], L', hR, hL w H⟩
theorem e_done0 {fn : Func} {RR : Value → List HP → Prop} (hr : fn.results = #[]) (L' : List HP) (hL : PSub w0 f0 L L') (hR : RR (.tuple #[]) L') : sE w0 f0 (doneS P fn w0 f0 RR) .ret f L :=
  fun w H => ⟨.tuple #[], res_none hr, L', hR, hL w H⟩
theorem e_done0N {fn : Func} {RR : Value → List HP → Prop} (hr : fn.results = #[]) (L' : List HP) (hL : PSub w0 f0 L L') (hR : RR (.tuple #[]) L') : sE w0 f0 (doneS P fn w0 f0 RR) .normal f L :=
  fun w H => ⟨.tuple #[], res_none hr, L', hR, hL w H⟩
theorem e_done2 {fn : Func} {RR : Value → List HP → Prop} {t u : Tmp} (hr : fn.results = #[.tmp t, .tmp u]) (ht : Nat.blt t fn.ntmps = true) (hu : Nat.blt u fn.ntmps = true) (L' : List HP) (hL : PSub w0 f0 L L') (hR : RR (.tuple #[f t, f u]) L') : sE w0 f0 (doneS P fn w0 f0 RR) .ret f L :=
  fun w H => ⟨_, res_two hr ht hu rfl rfl, L', hR, hL w H⟩
/-- The result lies in a block. -/
theorem e_doneC {fn : Func} {RR : Value → List HP → Prop} {t : Tmp} {tt : TypeId} {q b : Nat} {u : α} (hr : fn.results = #[.cell t tt]) (ht : Nat.blt t fn.ntmps = true) [hT : CA P tt q] (hx : f t = .pointer (some ⟨b, 0, none⟩)) [h : PcB L b (var (I := I) e b u) put] (hq : q = I.sz) (L' : List HP) (hL : PSub w0 f0 L L') (hR : RR (.agg (I.enc u).toArray) L') : sE w0 f0 (doneS P fn w0 f0 RR) .ret f L := by
  intro w H
  obtain ⟨i, hi, _⟩ := h.at_
  obtain ⟨g, hA, _⟩ := H.focus i hi
  refine ⟨_, res_cell hr ht hx (ldA hT.h (by rw [I.len, hq]) fun j v hj => ?_), L', hR, hL w H⟩
  rw [add_spot rfl]
  show w.cell? ⟨b, 0 + j, none⟩ = some v
  rw [Nat.zero_add, blk.cell hA j]; exact hj
end
attribute [irreducible] doneS
end
section
open Go Go.RowKit

structure Str where
  v : ByteArray
structure Iof (k : IntKind) where
  v : Int
structure Ar1 (α : Type) where
  a : α
structure Ar2 (α : Type) where
  a : α
  b : α
structure Ar3 (α : Type) where
  a : α
  b : α
  c : α
structure Ar4 (α : Type) where
  a : α
  b : α
  c : α
  d : α
instance : Enc Str := ⟨fun s => [.string s.v], 1, ⟨⟨#[]⟩⟩, fun _ => rfl, fun _ u h => by simp at h; subst h; rfl, by decide⟩
instance {k : IntKind} : Enc (Iof k) := ⟨fun s => [.int k s.v], 1, ⟨0⟩, fun _ => rfl, fun _ u h => by simp at h; subst h; rfl, by decide⟩
instance {α : Type} [I : Enc α] : Enc (Ar2 α) := ⟨fun s => I.enc s.a ++ I.enc s.b, I.sz + I.sz, ⟨I.dflt, I.dflt⟩, fun _ => by simp [I.len], fun x u h => by
  rcases List.mem_append.1 h with h | h
  · exact I.one _ _ h
  · exact I.one _ _ h, by have := I.pos; omega⟩
instance : Dp Str := ⟨fun _ _ _ => True, fun h _ => h, fun _ _ => trivial⟩
instance : Dp Mr := ⟨fun _ _ _ => True, fun h _ => h, fun _ _ => trivial⟩
instance : Dp Pr := ⟨fun _ _ _ => True, fun h _ => h, fun _ _ => trivial⟩
instance {k : IntKind} : Dp (Iof k) := ⟨fun _ _ x => (Lit.int k x.v).wf = true, fun h _ => h, fun _ _ => by cases k <;> decide⟩
instance {α : Type} [I : Enc α] [D : Dp α] : Dp (Ar2 α) := ⟨fun ok w x => D.rd ok w x.a ∧ D.rd ok w x.b, fun h hk => ⟨D.loc h.1 hk, D.loc h.2 hk⟩, fun ok w => ⟨D.dflt ok w, D.dflt ok w⟩⟩
instance {α : Type} [I : Enc α] [D : Dp α] {ok : FP} {w : World} {x : Ar2 α} [h : RdD ok w x] : RdD ok w x.a := ⟨h.h.1⟩
instance {α : Type} [I : Enc α] [D : Dp α] {ok : FP} {w : World} {x : Ar2 α} [h : RdD ok w x] : RdD ok w x.b := ⟨h.h.2⟩

class BoT (P : Program) (t : TypeId) : Prop where
  u : P.underlying t = some .bool
class MpT (P : Program) (t : TypeId) (kt e : outParam TypeId) : Prop where
  u : P.underlying t = some (.map kt e)
  k : P.underlying kt = some (.int .i64)
class Ekc (P : Program) (e : TypeId) (α : outParam Type) (E : outParam (EK P e α)) : Prop where
  z : ∀ w, (zeroValue e).run P w = .ok (E.enc E.zero) w
  c : ∀ x, (E.enc x).cells = #[E.enc x]

class PcM (L : List HP) (b : Nat) (X : outParam HP) (put : outParam (HP → List HP)) : Prop where
  at_ : ∃ i, L[i]? = some X ∧ ∀ Y, put Y = L.set i Y
class PcI (L : List HP) (r : Nat) (X : outParam HP) (put : outParam (HP → List HP)) (R : outParam (List HP)) : Prop where
  at_ : ∃ i, L[i]? = some X ∧ R = L.eraseIdx i ∧ ∀ Y, put Y = L.set i Y
section
variable {P : Program} {e kt : TypeId} {α : Type} {E : EK P e α} {b N r : Nat} {F : Int → Option α} {L L1 R : List HP} {X B : HP} {put : HP → List HP} {es : Array MapEntry} {clock cnt : Nat} {v : Option Nat} {todo : Int → Bool}
instance (priority := high) pcm_here : PcM (mp E kt b N F :: L) b (mp E kt b N F) (fun Y => Y :: L) := ⟨0, rfl, fun _ => rfl⟩
instance (priority := high) pcm_hereZ : PcM (mpz E kt b N F es clock :: L) b (mpz E kt b N F es clock) (fun Y => Y :: L) := ⟨0, rfl, fun _ => rfl⟩
instance pcm_next [h : PcM L b X put] : PcM (B :: L) b X (fun Y => B :: put Y) := by
  obtain ⟨i, h1, h2⟩ := h.at_; exact ⟨i + 1, h1, fun Y => by rw [h2]; rfl⟩
instance pcm_nil [h : PcM L b X put] : PcM ([] ++ L) b X put := h
instance pcm_cons [h : PcM (B :: (L1 ++ L)) b X put] : PcM ((B :: L1) ++ L) b X put := h
instance pci_nil [h : PcI L r X put R] : PcI ([] ++ L) r X put R := h
instance pci_cons [h : PcI (B :: (L1 ++ L)) r X put R] : PcI ((B :: L1) ++ L) r X put R := h
instance pcm_app [h : PcM L b X put] : PcM (L1 ++ L) b X (fun Y => L1 ++ put Y) := by
  obtain ⟨i, h1, h2⟩ := h.at_
  refine ⟨L1.length + i, by rw [List.getElem?_append_right (by omega), Nat.add_sub_cancel_left]; exact h1, fun Y => ?_⟩
  rw [h2, List.set_append_right _ _ (by omega), Nat.add_sub_cancel_left]
instance (priority := high) pci_here : PcI (itr P kt e v r es clock todo cnt :: L) r (itr P kt e v r es clock todo cnt) (fun Y => Y :: L) L := ⟨0, rfl, rfl, fun _ => rfl⟩
instance pci_next [h : PcI L r X put R] : PcI (B :: L) r X (fun Y => B :: put Y) (B :: R) := by
  obtain ⟨i, h1, h2, h3⟩ := h.at_; exact ⟨i + 1, h1, by rw [h2]; rfl, fun Y => by rw [h3]; rfl⟩
end
/-- A map that is only read. -/
class RdMp {P : Program} {e : TypeId} {α : Type} (E : EK P e α) (kt : TypeId) (ok : FP) (w : World) (v : Option Nat) (N : outParam Nat) (F : outParam (Int → Option α)) : Prop where
  h : RdM E kt ok w v N F

section
variable {P : Program} {n : Nat} {w0 w : World} {f0 : FP} {ops : Array Oper} {m : Bool} {rest : List Oper} {QC : Exit → Fr → World → Prop} {f : Fr} {L L1 L2 R : List HP} {x y z : Operand}
variable {d : Tmp} {ty t yt e kt : TypeId} {pos : String} {after : Array Edge} {α : Type} {E : EK P e α} {N : Nat} {F : Int → Option α} {put : HP → List HP} {b : Nat} {k : Int}

theorem s_beq [h : BoT P t] {a b : Bool} (hx : ev f x = .bool a) (hy : ev f y = .bool b) (hn : sO P n w0 f0 ops m rest QC (up f d (.bool (a == b))) L) (hd : Nat.blt d n = true := by rfl) : sO P n w0 f0 ops m (⟨some d, .binOp .eql t x y yt, ty, pos, after, none⟩ :: rest) QC f L := fun w H => o_beq h.u hx hy (hn w H) hd
theorem s_bne [h : BoT P t] {a b : Bool} (hx : ev f x = .bool a) (hy : ev f y = .bool b) (hn : sO P n w0 f0 ops m rest QC (up f d (.bool (!(a == b)))) L) (hd : Nat.blt d n = true := by rfl) : sO P n w0 f0 ops m (⟨some d, .binOp .neq t x y yt, ty, pos, after, none⟩ :: rest) QC f L := fun w H => o_bne h.u hx hy (hn w H) hd

theorem s_mkmap (E : EK P e α) [h : MpT P t kt e] (hn : ∀ b, sO P n w0 f0 ops false rest QC (up f d (.map (some b))) (mp E kt b 0 (fun _ => none) :: L)) (hd : Nat.blt d n = true := by rfl) : sO P n w0 f0 ops false (⟨some d, .makeMap t none, ty, pos, after, none⟩ :: rest) QC f L :=
  fun w H => o_mkmap E kt H (fun b w' H' => hn b w' H'.head) hd
theorem s_mkmapB [h : MpT P t kt e] {E : EK P e Bool} [Ekc P e Bool E] (hn : ∀ b, sO P n w0 f0 ops false rest QC (up f d (.map (some b))) (mp E kt b 0 (fun _ => none) :: L)) (hd : Nat.blt d n = true := by rfl) : sO P n w0 f0 ops false (⟨some d, .makeMap t none, ty, pos, after, none⟩ :: rest) QC f L := s_mkmap E hn hd
theorem s_mkmapI [h : MpT P t kt e] {E : EK P e Int} [Ekc P e Int E] (hn : ∀ b, sO P n w0 f0 ops false rest QC (up f d (.map (some b))) (mp E kt b 0 (fun _ => none) :: L)) (hd : Nat.blt d n = true := by rfl) : sO P n w0 f0 ops false (⟨some d, .makeMap t none, ty, pos, after, none⟩ :: rest) QC f L := s_mkmap E hn hd
theorem s_look [hm : MpT P t kt e] [he : Ekc P e α E] (hx : ev f x = .map (some b)) (hy : ev f y = .int .i64 k) [h : PcM L b (mp E kt b N F) put] (hw : wfi k) (hn : sO P n w0 f0 ops m rest QC (up f d (E.enc ((F k).getD E.zero))) L) (hd : Nat.blt d n = true := by rfl) : sO P n w0 f0 ops m (⟨some d, .lookup t x y false, ty, pos, after, none⟩ :: rest) QC f L := by
  intro w H
  obtain ⟨i, hi, _⟩ := h.at_
  exact o_look hm.k hm.u he.z H i hi hx hy hw rfl (hn w H) hd
theorem s_look_ok [hm : MpT P t kt e] [he : Ekc P e α E] (hx : ev f x = .map (some b)) (hy : ev f y = .int .i64 k) [h : PcM L b (mp E kt b N F) put] (hw : wfi k) (hn : sO P n w0 f0 ops m rest QC (up f d (.tuple #[E.enc ((F k).getD E.zero), .bool (F k).isSome])) L) (hd : Nat.blt d n = true := by rfl) : sO P n w0 f0 ops m (⟨some d, .lookup t x y true, ty, pos, after, none⟩ :: rest) QC f L := by
  intro w H
  obtain ⟨i, hi, _⟩ := h.at_
  exact o_look_ok hm.k hm.u he.z H i hi hx hy hw rfl rfl (hn w H) hd
theorem s_lookS [hm : MpT P t kt e] [he : Ekc P e α E] {v : Option Nat} (hx : ev f x = .map v) (hy : ev f y = .int .i64 k) [h : RdMp E kt (okOf w0 f0) w0 v N F] (hw : wfi k) (hn : sO P n w0 f0 ops m rest QC (up f d (E.enc ((F k).getD E.zero))) L) (hd : Nat.blt d n = true := by rfl) : sO P n w0 f0 ops m (⟨some d, .lookup t x y false, ty, pos, after, none⟩ :: rest) QC f L :=
  fun w H => o_lookS hm.k hm.u he.z H h.h hx hy hw rfl (hn w H) hd
theorem s_lookS_ok [hm : MpT P t kt e] [he : Ekc P e α E] {v : Option Nat} (hx : ev f x = .map v) (hy : ev f y = .int .i64 k) [h : RdMp E kt (okOf w0 f0) w0 v N F] (hw : wfi k) (hn : sO P n w0 f0 ops m rest QC (up f d (.tuple #[E.enc ((F k).getD E.zero), .bool (F k).isSome])) L) (hd : Nat.blt d n = true := by rfl) : sO P n w0 f0 ops m (⟨some d, .lookup t x y true, ty, pos, after, none⟩ :: rest) QC f L :=
  fun w H => o_lookS_ok hm.k hm.u he.z H h.h hx hy hw rfl rfl (hn w H) hd
theorem s_put [hm : MpT P t kt e] {yv : α} (hx : ev f x = .map (some b)) (hy : ev f y = .int .i64 k) [h : PcM L b (mp E kt b N F) put] (hv : ev f z = E.enc yv) (hw : wfi k) (hg : E.good yv) (hN : N < 1000000000) (hn : sO P n w0 f0 ops false rest QC f (put (mp E kt b (N + 1) (upd F k (some yv))))) : sO P n w0 f0 ops false (⟨none, .mapUpdate t x y z, ty, pos, after, none⟩ :: rest) QC f L := by
  intro w H
  obtain ⟨i, hi, h2⟩ := h.at_
  refine o_put hm.k hm.u H i hi hx hy hv hw hg hN fun w' H' => hn w' ?_
  rw [h2]; exact H'
theorem s_putI [hm : MpT P t kt e] {yv : α} (hx : ev f x = .map (some b)) (hy : ev f y = .int .i64 k) [h : PcM L b (mp E kt b N F) put] (hv : ev f z = E.enc yv) (hw : wfi k) (hg : E.good yv) (hN : N < 1000000000) (hn : sO P n w0 f0 ops false rest QC f (put (mp E kt b (N + 1) (upd F k (some yv))))) : sO P n w0 f0 ops false (⟨none, .insert t x y z, ty, pos, after, none⟩ :: rest) QC f L := by
  intro w H
  obtain ⟨i, hi, h2⟩ := h.at_
  refine o_ins hm.k hm.u H i hi hx hy hv hw hg hN fun w' H' => hn w' ?_
  rw [h2]; exact H'
theorem s_del [hm : MpT P t kt e] (hx : ev f x = .map (some b)) (hy : ev f y = .int .i64 k) [h : PcM L b (mp E kt b N F) put] (hw : wfi k) (hn : sO P n w0 f0 ops false rest QC (up f d (.tuple #[])) (put (mp E kt b N (upd F k none)))) (hd : Nat.blt d n = true := by rfl) : sO P n w0 f0 ops false (⟨some d, .call { callee := .builtin .delete, args := #[x, y], argTypes := #[t, kt] }, ty, pos, after, none⟩ :: rest) QC f L := by
  intro w H
  obtain ⟨i, hi, h2⟩ := h.at_
  refine o_del hm.k hm.u H i hi hx hy hw (fun w' H' => hn w' ?_) hd
  rw [h2]; exact H'

/-! ranges over maps -/
def EntOk (P : Program) (v : Option Nat) (r : Nat) (es : Array MapEntry) (clock : Nat) (tup : Value) (o : Obj) : Prop :=
  ∀ w, w.heap[r]? = some o → (∀ b, v = some b → w.heap[b]? = some (.map es clock)) → (Instr.entry (.pointer (some ⟨r, 0, none⟩))).run P w = .ok tup w
/-- An iterator behind a step. -/
def itrE (P : Program) (kt e : TypeId) (v : Option Nat) (r : Nat) (es : Array MapEntry) (clock : Nat) (todo : Int → Bool) (cnt : Nat) (tup : Value) : HP where
  sat w g := (itr P kt e v r es clock todo cnt).sat w g ∧ ∃ o, w.heap[r]? = some o ∧ EntOk P v r es clock tup o
  loc := fun {w w' g} ⟨h1, o, h2, h3⟩ hk => ⟨(itr P kt e v r es clock todo cnt).loc h1 hk, o, (hk r ((h1.1 r).2 rfl)).trans h2, h3⟩
  dom := fun {w g} ⟨h1, _⟩ => (itr P kt e v r es clock todo cnt).dom h1
theorem itr.ent {v : Option Nat} {r : Nat} {es : Array MapEntry} {clock cnt : Nat} {todo : Int → Bool} {g : FP} {tup : Value} (h : (itr P kt e v r es clock todo cnt).sat w g) (hb : ∀ b, v = some b → w.heap[b]? = some (.map es clock))
    (hr : (Instr.entry (.pointer (some ⟨r, 0, none⟩))).run P w = .ok tup w) : (itrE P kt e v r es clock todo cnt tup).sat w g := by
  refine ⟨h, ?_⟩
  obtain ⟨_, since, seen, c0, h1, _⟩ := h
  refine ⟨_, h1, fun w' h1' hb' => ?_⟩
  cases v with
  | none =>
    simp [Instr.entry, getObj, Sem.run, h1] at hr
  | some b =>
    have h2 := hb b rfl
    have h2' := hb' b rfl
    simp only [Instr.entry, getObj, Sem.run_bind, Sem.run, h1, Result.andThen] at hr
    simp only [Instr.entry, getObj, Sem.run_bind, Sem.run, h1', Result.andThen]
    cases hs : seen.back? with
    | none => simp [hs] at hr
    | some stamp =>
      simp only [hs, Sem.run_bind, Sem.run, h2, Result.andThen] at hr
      simp only [Sem.run_bind, Sem.run, h2', Result.andThen]
      by_cases hc : (clock != c0) = true
      · simp [hc] at hr
      · simp only [hc] at hr ⊢
        cases he : es.find? (·.born == stamp) with
        | none => simp [he] at hr
        | some x =>
          simp [he] at hr ⊢
          exact hr
variable {es : Array MapEntry} {clock cnt r : Nat} {todo : Int → Bool} {v : Option Nat} {tup : Value}
instance (priority := high) pci_hereE : PcI (itrE P kt e v r es clock todo cnt tup :: L) r (itrE P kt e v r es clock todo cnt tup) (fun Y => Y :: L) L := ⟨0, rfl, rfl, fun _ => rfl⟩

theorem s_rangeS [hm : MpT P t kt e] (hx : ev f x = .map v) [he : Ekc P e α E] [h : RdMp E kt (okOf w0 f0) w0 v N F]
    (hn : ∀ es clock cnt r, cnt ≤ N → MAt E kt (okOf w0 f0) w0 v es clock N F → sO P n w0 f0 ops false rest QC (up f d (.pointer (some ⟨r, 0, none⟩))) (itr P kt e v r es clock (fun k => (F k).isSome) cnt :: L)) (hd : Nat.blt d n = true := by rfl) : sO P n w0 f0 ops false (⟨some d, .range t x, ty, pos, after, none⟩ :: rest) QC f L :=
  fun w H => o_rangeS hm.k hm.u H h.h hx (fun es clock cnt r w' h1 h2 H' => hn es clock cnt r h1 h2 w' H'.head) hd
theorem s_nextS (hk : P.underlying kt = some (.int .i64)) (hM : MAt E kt (okOf w0 f0) w0 v es clock N F) (hx : ev f x = .pointer (some ⟨r, 0, none⟩)) [h : PcI L r (itr P kt e v r es clock todo cnt) put R]
    (h0 : (∀ k, F k ≠ none → todo k = false) → sO P n w0 f0 ops false rest QC (up f d (.tuple #[.bool false])) R)
    (h1 : ∀ k x cnt', wfi k → E.good x → todo k = true → F k = some x → cnt' < cnt → sO P n w0 f0 ops false rest QC (up f d (.tuple #[.bool true, .int .i64 k, E.enc x])) (put (itrE P kt e v r es clock (fun j => todo j && j != k) cnt' (.tuple #[.int .i64 k, E.enc x]))))
    (hd : Nat.blt d n = true := by rfl) : sO P n w0 f0 ops false (⟨some d, .next x false, ty, pos, after, none⟩ :: rest) QC f L := by
  intro w H
  obtain ⟨i, hi, hR, hp⟩ := h.at_
  refine o_nextS hk H i hi hM hx (fun hf => h0 hf w (by rw [hR]; exact H.drop i)) (fun k x w' cnt' hw ht hF hlt H' hen => ?_) hd
  refine h1 k x cnt' hw.1 hw.2 ht hF hlt w' ?_
  rw [hp]
  have hil := (List.getElem?_eq_some_iff.1 hi).1
  have := H'.turn i (A' := itrE P kt e v r es clock (fun j => todo j && j != k) cnt' (.tuple #[.int .i64 k, E.enc x])) (List.getElem?_set_self hil) fun g hg => itr.ent hg (fun b hb => by
    rcases hM with ⟨rfl, _⟩ | ⟨b', e1, hok, hb', _⟩
    · cases hb
    · rw [e1] at hb; cases hb
      exact (H'.ok0 _ hok).2.trans hb') hen
  rwa [List.set_set] at this
theorem s_entryS (hM : MAt E kt (okOf w0 f0) w0 v es clock N F) (hx : ev f x = .pointer (some ⟨r, 0, none⟩)) [h : PcI L r (itrE P kt e v r es clock todo cnt tup) put R]
    (hn : sO P n w0 f0 ops m rest QC (up f d tup) (put (itr P kt e v r es clock todo cnt))) (hd : Nat.blt d n = true := by rfl) : sO P n w0 f0 ops m (⟨some d, .entry x, ty, pos, after, none⟩ :: rest) QC f L := by
  intro w H
  obtain ⟨i, hi, hR, hp⟩ := h.at_
  obtain ⟨f1, hA, _, _⟩ := H.focus i hi
  obtain ⟨hI, o, ho, hE⟩ := hA
  refine o_entry hx (hE w ho fun b hb => ?_) (hn w ?_) hd
  · rcases hM with ⟨rfl, _⟩ | ⟨b', e1, hok, hb', _⟩
    · cases hb
    · rw [e1] at hb; cases hb
      exact (H.ok0 _ hok).2.trans hb'
  · rw [hp]; exact H.turn i hi fun g hg => hg.1
/-! .. of the call's own -/
theorem s_freeze {c : Code} (b : Nat) [h : PcM L b (mp E kt b N F) put] (hn : ∀ es clock, sC P n w0 f0 c QC f (put (mpz E kt b N F es clock))) : sC P n w0 f0 c QC f L := by
  intro w H
  obtain ⟨i, hi, hp⟩ := h.at_
  obtain ⟨es, clock, H'⟩ := H.freeze i hi
  exact hn es clock w (by rw [hp]; exact H')
theorem so_freeze {lo : List Oper} (b : Nat) [h : PcM L b (mp E kt b N F) put] (hn : ∀ es clock, sO P n w0 f0 ops m lo QC f (put (mpz E kt b N F es clock))) : sO P n w0 f0 ops m lo QC f L := by
  intro w H
  obtain ⟨i, hi, hp⟩ := h.at_
  obtain ⟨es, clock, H'⟩ := H.freeze i hi
  exact hn es clock w (by rw [hp]; exact H')
theorem s_thaw {c : Code} (b : Nat) [h : PcM L b (mpz E kt b N F es clock) put] (hn : sC P n w0 f0 c QC f (put (mp E kt b N F))) : sC P n w0 f0 c QC f L := by
  intro w H
  obtain ⟨i, hi, hp⟩ := h.at_
  exact hn w (by rw [hp]; exact H.thaw i hi)
theorem so_thaw {lo : List Oper} (b : Nat) [h : PcM L b (mpz E kt b N F es clock) put] (hn : sO P n w0 f0 ops m lo QC f (put (mp E kt b N F))) : sO P n w0 f0 ops m lo QC f L := by
  intro w H
  obtain ⟨i, hi, hp⟩ := h.at_
  exact hn w (by rw [hp]; exact H.thaw i hi)
theorem s_rangeR [hm : MpT P t kt e] (hx : ev f x = .map (some b)) [h : PcM L b (mpz E kt b N F es clock) put]
    (hn : ∀ cnt r, cnt ≤ N → sO P n w0 f0 ops false rest QC (up f d (.pointer (some ⟨r, 0, none⟩))) (itr P kt e (some b) r es clock (fun k => (F k).isSome) cnt :: L)) (hd : Nat.blt d n = true := by rfl) : sO P n w0 f0 ops false (⟨some d, .range t x, ty, pos, after, none⟩ :: rest) QC f L := by
  intro w H
  obtain ⟨i, hi, hp⟩ := h.at_
  exact o_rangeR hm.k hm.u H i hi hx (fun cnt r w' h1 H' => hn cnt r h1 w' H'.head) hd
theorem s_nextR {put' : HP → List HP} (hk : P.underlying kt = some (.int .i64)) (hx : ev f x = .pointer (some ⟨r, 0, none⟩)) [h : PcI L r (itr P kt e (some b) r es clock todo cnt) put R] [h' : PcM L b (mpz E kt b N F es clock) put']
    (h0 : (∀ k, F k ≠ none → todo k = false) → sO P n w0 f0 ops false rest QC (up f d (.tuple #[.bool false])) R)
    (h1 : ∀ k x cnt', wfi k → E.good x → todo k = true → F k = some x → cnt' < cnt → sO P n w0 f0 ops false rest QC (up f d (.tuple #[.bool true, .int .i64 k, E.enc x])) (put (itrE P kt e (some b) r es clock (fun j => todo j && j != k) cnt' (.tuple #[.int .i64 k, E.enc x]))))
    (hd : Nat.blt d n = true := by rfl) : sO P n w0 f0 ops false (⟨some d, .next x false, ty, pos, after, none⟩ :: rest) QC f L := by
  intro w H
  obtain ⟨i, hi, hR, hp⟩ := h.at_
  obtain ⟨j, hj, _⟩ := h'.at_
  have hij : i ≠ j := by
    intro e'
    subst e'
    rw [hi] at hj
    have e2 := Option.some.inj hj
    obtain ⟨f1, hA', _, _⟩ := H.focus i hi
    have hA := hA'
    obtain ⟨_, since, seen, c0, h2, _⟩ := hA
    have : (mpz E kt b N F es clock).sat w f1 := by rw [← e2]; exact hA'
    have q1 := (this.1 b).2 rfl
    have q2 := (hA'.1 b).1 q1
    have q3 := this.2.1
    rw [q2] at q3
    rw [h2] at q3
    cases q3
  refine o_nextR hk H i j hi hj hx (fun hf => h0 hf w (by rw [hR]; exact H.drop i)) (fun k x w' cnt' hw ht hF hlt H' hen => ?_) hd
  refine h1 k x cnt' hw.1 hw.2 ht hF hlt w' ?_
  rw [hp]
  have hil := (List.getElem?_eq_some_iff.1 hi).1
  have hj' : (L.set i (itr P kt e (some b) r es clock (fun j => todo j && j != k) cnt'))[j]? = some (mpz E kt b N F es clock) := by rw [List.getElem?_set_ne hij]; exact hj
  obtain ⟨f2, hZ, _, _⟩ := H'.focus j hj'
  have := H'.turn i (A' := itrE P kt e (some b) r es clock (fun j => todo j && j != k) cnt' (.tuple #[.int .i64 k, E.enc x])) (List.getElem?_set_self hil) fun g hg => itr.ent hg (fun b' hb' => by cases hb'; exact hZ.2.1) hen
  rwa [List.set_set] at this
theorem s_entryR {put' : HP → List HP} (hx : ev f x = .pointer (some ⟨r, 0, none⟩)) [h : PcI L r (itrE P kt e (some b) r es clock todo cnt tup) put R] [h' : PcM L b (mpz E kt b N F es clock) put']
    (hn : sO P n w0 f0 ops m rest QC (up f d tup) (put (itr P kt e (some b) r es clock todo cnt))) (hd : Nat.blt d n = true := by rfl) : sO P n w0 f0 ops m (⟨some d, .entry x, ty, pos, after, none⟩ :: rest) QC f L := by
  intro w H
  obtain ⟨i, hi, hR, hp⟩ := h.at_
  obtain ⟨j, hj, _⟩ := h'.at_
  obtain ⟨f1, hA, _, _⟩ := H.focus i hi
  obtain ⟨f2, hZ, _, _⟩ := H.focus j hj
  obtain ⟨hI, o, ho, hE⟩ := hA
  refine o_entry hx (hE w ho fun b' hb' => by cases hb'; exact hZ.2.1) (hn w ?_) hd
  rw [hp]; exact H.turn i hi fun g hg => hg.1
theorem s_lenMZ [hm : MpT P t kt e] (hx : ev f x = .map (some b)) [h : PcM L b (mpz E kt b N F es clock) put] (hn : sO P n w0 f0 ops m rest QC (up f d (.int .i64 (es.size : Nat))) L) (hd : Nat.blt d n = true := by rfl) : sO P n w0 f0 ops m (⟨some d, .call { callee := .builtin .len, args := #[x], argTypes := #[t] }, ty, pos, after, none⟩ :: rest) QC f L := by
  intro w H
  obtain ⟨i, hi, _⟩ := h.at_
  exact o_lenM hm.u H i hi hx (hn w H) hd
end
end
section
open Go Go.RowKit

theorem spec0 {P : Program} {g : FuncId} {vs : List Value} {Rd : FP → World → Prop} {RR : Value → List HP → Prop} (h : ∀ w, Rd (okOf w fun _ => False) w → CallsV P g vs.toArray w fun v w' => ∃ L', RR v L' ∧ St w (fun _ => False) L' w') : Spec P g vs [] Rd RR := by
  intro w1 f1 hs hr
  have : f1 = fun _ => False := by funext b; exact propext ⟨fun hb => hs b hb, fun hb => hb.elim⟩
  subst this
  exact h w1 hr
section
variable {P : Program} {n : Nat} {w0 w : World} {f0 : FP} {ops : Array Oper} {rest : List Oper} {QC : Exit → Fr → World → Prop} {f : Fr} {L : List HP} {ty : TypeId} {pos : String} {after : Array Edge}
/-- A call that is handed nothing to keep. -/
theorem s_call0 {d : Option Tmp} {g : FuncId} {vs : List Value} {Rd : FP → World → Prop} {RR : Value → List HP → Prop} {lo : List Operand} {ats : Array TypeId} (spec : Spec P g vs [] Rd RR) [hF : IsFc P g] (hv : lo.map (ev f) = vs)
    (hrd : ∀ w1, St w0 f0 L w1 → Rd (okOf w1 fun _ => False) w1) (hn : ∀ v L', RR v L' → sO P n w0 f0 ops false rest QC (upO f d v) (L' ++ L)) (hd : dOk n d = true := by rfl) :
    sO P n w0 f0 ops false (⟨d, .call { callee := .value (.func g), args := lo.toArray, argTypes := ats }, ty, pos, after, none⟩ :: rest) QC f L := by
  intro w H
  obtain ⟨fn, hF⟩ := hF.ex
  refine o_callN hF hv (spec w (fun _ => False) (fun _ h => h) (hrd w H)) (fun v w' ⟨L', hR, hs⟩ => hn v L' hR w' ?_) hd
  have := H.call0 L' w' hs
  have h2 : St w0 f0 (L ++ L') w' := this
  exact h2.rot
theorem St.rdD {α : Type} [Enc α] [Dp α] (H : St w0 f0 L w) {x : α} (h : RdD (okOf w0 f0) w0 x) : RdD (okOf w fun _ => False) w x := h.loc H.ok0
theorem St.rdO {α : Type} [I : Enc α] {e : TypeId} {A : Option Addr} {l c : Nat} {xs : List α} {put : HP → List HP} (H : St w0 f0 L w) [h : Pc L A (own (I := I) e A l c xs) put] : xs.length = l ∧ RdSl (okOf w fun _ => False) w (⟨A, c, xs⟩ : Sl α) := by
  obtain ⟨i, hi, _⟩ := h.at_
  obtain ⟨g, hA, _⟩ := H.focus i hi
  have hl := own.len hA
  refine ⟨hl.1, ?_⟩
  have := row.rd (show (row A l c e I.sz (xs.flatMap I.enc)).sat w g from hA) (ok := okOf w fun _ => False) fun b hb => ⟨(own e A l c xs).dom hA b hb, id⟩
  unfold RdSl
  rw [show (⟨A, c, xs⟩ : Sl α).xs.length = l from hl.1]
  exact this
/-- A region in drawn order: what only reads, and behind it a chain. -/
def QCF (F : Fr) : Exit → Fr → World → Prop := fun _ f' _ => f' = F
theorem e_F {fr : Fr} : sE w0 f0 (QCF fr) .normal fr L := fun _ _ => rfl
theorem s_tail {id : Nat} {l : List Oper} {F : Fr} (N : Nat) (rs : List Nat) (hm : P.follows .mixedOrders = true) (hB : mixB .any n l N rs [] = true) (hread : sO P n w0 f0 l.toArray true (opsAt l rs) (QCF F) f L) (hrest : sO P n w0 f0 l.toArray false (l.drop N) QC F L) : sC P n w0 f0 (.region id l.toArray true) QC f L := by
  intro w H
  refine wC_mix (J := fun w' => St w0 f0 L w') N rs [] F hm hB (H.idle (Step.drew w _)) (fun w' H' => hread w' H') ?_
  simp only [opsAt, List.filterMap_nil, wJ]
  exact hrest _ (H.idle (Step.drew w _))
class PtT (P : Program) (t : TypeId) : Prop where
  u : ∃ e, P.underlying t = some (.pointer e)
variable {m : Bool} {d : Tmp} {x y : Operand} {t yt : TypeId}
theorem run_pnil' {e : TypeId} {p : Option Addr} (m : Nat) (ht : P.underlying t = some (.pointer e)) : (Op.equalIn (m + 1) t (.pointer p) (.pointer none)).run P w = .ok p.isNone w := by
  cases p <;> simp [Op.equalIn, run_underlying ht]
/-- a pointer against nil -/
theorem s_pnil [h : PtT P t] {p : Option Addr} (hx : ev f x = .pointer p) (hy : ev f y = .pointer none) (hn : sO P n w0 f0 ops m rest QC (up f d (.bool p.isNone)) L) (hd : Nat.blt d n = true := by rfl) :
    sO P n w0 f0 ops m (⟨some d, .binOp .eql t x y yt, ty, pos, after, none⟩ :: rest) QC f L := by
  intro w H
  obtain ⟨e, ht⟩ := h.u
  refine o_pure (v := .bool p.isNone) rfl hd ?_ (hn w H)
  show (Sem.run P (do pure (Next.value (← (do eqGuard .eql t x y (ev f x) (ev f y); binOp .eql t (ev f x) (ev f y))))) w) = _
  rw [hx, hy]
  have he : (Op.equal t (.pointer p) (.pointer none)).run P w = .ok p.isNone w := run_pnil' 9999 ht
  simp [eqGuard, binOp, he, Result.andThen]
theorem s_snil {e : TypeId} [h : SlT P t e] {A : Option Addr} {l c : Nat} (hx : ev f x = .slice A l c) (hy : ev f y = .slice none 0 0) (hn : sO P n w0 f0 ops m rest QC (up f d (.bool A.isNone)) L) (hd : Nat.blt d n = true := by rfl) :
    sO P n w0 f0 ops m (⟨some d, .binOp .eql t x y yt, ty, pos, after, none⟩ :: rest) QC f L := fun w H => o_snil h.u hx hy (hn w H) hd
end
theorem flat_one {α : Type} (f : α → Value) (l : List α) : l.flatMap (fun x => [f x]) = l.map f := by
  induction l with
  | nil => rfl
  | cons x l ih => rw [List.flatMap_cons, ih]; rfl
theorem own_bool {e : TypeId} {A : Option Addr} {l c : Nat} (r : List Bool) : row A l c e 1 (r.map Value.bool) = own e A l c r := by
  unfold own
  show _ = row A l c e 1 (r.flatMap fun x => [.bool x])
  rw [flat_one]
theorem own_int {e : TypeId} {A : Option Addr} {l c : Nat} (r : List Int) : row A l c e 1 (r.map (Value.int .i64)) = own e A l c r := by
  unfold own
  show _ = row A l c e 1 (r.flatMap fun x => [.int .i64 x])
  rw [flat_one]
def toSl {α : Type} (x : Hd α) : Sl α := ⟨x.1.1, x.1.2, x.2⟩
theorem own_heads {α : Type} {e : TypeId} {A : Option Addr} {l c : Nat} (hs : List (Hd α)) : row A l c e 1 (hs.map hdv) = own e A l c (hs.map toSl) := by
  unfold own
  show _ = row A l c e 1 ((hs.map toSl).flatMap fun s => [.slice s.A s.xs.length s.c])
  rw [flat_one, List.map_map]; rfl
theorem rws_heads {α : Type} [I : Enc α] {e : TypeId} (f : α → Value) (hf : ∀ x, I.enc x = [f x]) (hz : I.sz = 1) (hs : List (Hd α)) : star (hs.map (hrow f e)) = rws e (hs.map toSl) := by
  unfold rws
  rw [List.map_map]
  congr 1
  refine List.map_congr_left fun x _ => ?_
  show row x.1.1 x.2.length x.1.2 e 1 (x.2.map f) = row x.1.1 x.2.length x.1.2 e I.sz (x.2.flatMap I.enc)
  rw [hz]
  congr 1
  have : I.enc = fun x => [f x] := funext hf
  rw [this, flat_one]
end
end Go.Proofs.Ytoknjpmlloikhaa
