/- Goals that hold their pieces: walks without naming worlds. -/
import Derived.Test.YtfplmdjlgjgbgaaKz
namespace Go.Proofs.Ytfplmdjlgjgbgaa
set_option linter.unusedVariables false
set_option linter.unusedSimpArgs false
open Go Go.RowKit

section
variable (P : Program) (n : Nat) (w0 : World) (f0 : FP)
def sE (QC : Exit → Fr → World → Prop) (e : Exit) (f : Fr) (L : List HP) : Prop := ∀ w, St w0 f0 L w → QC e f w
def sO (ops : Array Oper) (m : Bool) (l : List Oper) (QC : Exit → Fr → World → Prop) (f : Fr) (L : List HP) : Prop := ∀ w, St w0 f0 L w → wO P ops n m l (fun f' w' => QC .normal f' w') f w
def sC (c : Code) (QC : Exit → Fr → World → Prop) (f : Fr) (L : List HP) : Prop := ∀ w, St w0 f0 L w → wC P n c QC f w
end

def sqS (P : Program) (n : Nat) (c2 : Code) (QC : Exit → Fr → World → Prop) : Exit → Fr → World → Prop := sq P n c2 QC
def bkS (id : Nat) (QC : Exit → Fr → World → Prop) : Exit → Fr → World → Prop := bk id QC
section
variable {P : Program} {n : Nat} {w0 : World} {f0 : FP} {ops : Array Oper} {m : Bool} {rest : List Oper} {QC : Exit → Fr → World → Prop} {f : Fr} {L L' : List HP} {c c1 c2 : Code} {id : Nat} {x y z : Operand} {e : Exit}

/-! ### the frame of the walk -/
theorem s_nil (h : sE w0 f0 QC .normal f L) : sO P n w0 f0 ops m [] QC f L := fun w H => o_nil (h w H)
theorem s_region {l : List Oper} (h : sO P n w0 f0 l.toArray false l QC f L) : sC P n w0 f0 (.region id l.toArray false) QC f L := fun w H => wC_region (h w H)
theorem s_still {l : List Oper} (hm : P.follows .mixedOrders = true) (hB : Region.lexB .any l.toArray = true) (h : sO P n w0 f0 l.toArray true l QC f L) : sC P n w0 f0 (.region id l.toArray true) QC f L :=
  fun w H => wC_still hm hB (h _ (H.idle (Step.drew w _)))
def pureOp (o : Oper) : Bool := match o.op with
  | .store _ _ _ => false
  | .alloc _ => false
  | .box _ _ => false
  | .mapUpdate _ _ _ _ => false
  | .insert _ _ _ _ => false
  | .makeSlice _ _ _ => false
  | .buildSlice _ _ _ => false
  | .makeMap _ _ => false
  | .range _ _ => false
  | .next _ _ => false
  | .call c => match c.callee with
    | .builtin .len => true
    | .builtin .max => true
    | .builtin .min => true
    | _ => false
  | _ => true
theorem s_stillP {l : List Oper} (hm : P.follows .mixedOrders = true) (hp : (l.all pureOp) = true) (hB : Region.lexB .any l.toArray = true) (h : sO P n w0 f0 l.toArray true l QC f L) : sC P n w0 f0 (.region id l.toArray true) QC f L := s_still hm hB h
theorem s_seq (h : sC P n w0 f0 c1 (sqS P n c2 QC) f L) : sC P n w0 f0 (.seq c1 c2) QC f L := fun w H => wC_seq (h w H)
theorem s_block (h : sC P n w0 f0 c (bkS id QC) f L) : sC P n w0 f0 (.block id c) QC f L := fun w H => wC_block (h w H)
theorem s_skip (h : sE w0 f0 QC .normal f L) : sC P n w0 f0 .skip QC f L := fun w H => wC_skip (h w H)
theorem s_ret (h : sE w0 f0 QC .ret f L) : sC P n w0 f0 .ret QC f L := fun w H => wC_ret (h w H)
theorem s_exit (h : sE w0 f0 QC (.exit id) f L) : sC P n w0 f0 (.exit id) QC f L := fun w H => wC_exit (h w H)
theorem e_seq (h : sC P n w0 f0 c2 QC f L) : sE w0 f0 (sqS P n c2 QC) .normal f L := h
theorem e_seq_ret (h : sE w0 f0 QC .ret f L) : sE w0 f0 (sqS P n c2 QC) .ret f L := h
theorem e_seq_exit (h : sE w0 f0 QC (.exit id) f L) : sE w0 f0 (sqS P n c2 QC) (.exit id) f L := h
theorem e_bk (h : sE w0 f0 QC .normal f L) : sE w0 f0 (bkS id QC) .normal f L := h
theorem e_bk_ret (h : sE w0 f0 QC .ret f L) : sE w0 f0 (bkS id QC) .ret f L := h
theorem e_bk_exit (h : sE w0 f0 QC .normal f L) : sE w0 f0 (bkS id QC) (.exit id) f L := fun w H => by
  show bif Nat.beq id id then _ else _
  rw [Nat.beq_refl]; exact h w H
theorem e_bk_out {id' : Nat} (hne : Nat.beq id' id = false) (h : sE w0 f0 QC (.exit id') f L) : sE w0 f0 (bkS id QC) (.exit id') f L := fun w H => by
  show bif Nat.beq id' id then _ else _
  rw [hne]; exact h w H
theorem s_if {b : Bool} (hx : ev f x = .bool b) (ht : b = true → sC P n w0 f0 c1 QC f L) (hf : b = false → sC P n w0 f0 c2 QC f L) : sC P n w0 f0 (.cond x c1 c2) QC f L := by
  intro w H
  cases b with
  | true => exact wC_if true hx (ht rfl w H)
  | false => exact wC_if false hx (hf rfl w H)
theorem s_ift (hx : ev f x = .bool true) (h : sC P n w0 f0 c1 QC f L) : sC P n w0 f0 (.cond x c1 c2) QC f L := fun w H => wC_if true hx (h w H)
theorem s_iff (hx : ev f x = .bool false) (h : sC P n w0 f0 c2 QC f L) : sC P n w0 f0 (.cond x c1 c2) QC f L := fun w H => wC_if false hx (h w H)
theorem s_ifd {p : Prop} [Decidable p] (hx : ev f x = .bool (decide p)) (ht : p → sC P n w0 f0 c1 QC f L) (hf : ¬ p → sC P n w0 f0 c2 QC f L) : sC P n w0 f0 (.cond x c1 c2) QC f L :=
  s_if hx (fun h => ht (of_decide_eq_true h)) fun h => hf (of_decide_eq_false h)
theorem s_ifn {p : Prop} [Decidable p] (hx : ev f x = .bool (!decide p)) (ht : ¬ p → sC P n w0 f0 c1 QC f L) (hf : p → sC P n w0 f0 c2 QC f L) : sC P n w0 f0 (.cond x c1 c2) QC f L :=
  s_if hx (fun h => ht (by simpa using h)) fun h => hf (by simpa using h)

/-! ### loops and cuts -/
variable {σ : Type}
def lpS (w0 : World) (f0 : FP) (QC : Exit → Fr → World → Prop) (S : σ → List (Nat × Value)) (I : σ → List HP) (J : σ → Prop) (μ : σ → Nat) (s : σ) : Exit → Fr → World → Prop
  | .normal, f', w' => ∃ s', fits f' (S s') ∧ (J s' ∧ St w0 f0 (I s') w') ∧ μ s' < μ s
  | e, f', w' => QC e f' w'
def ctS (w0 : World) (f0 : FP) (QC : Exit → Fr → World → Prop) (S : σ → List (Nat × Value)) (I : σ → List HP) (J : σ → Prop) : Exit → Fr → World → Prop
  | .normal, f', w' => ∃ s, fits f' (S s) ∧ J s ∧ St w0 f0 (I s) w'
  | e, f', w' => QC e f' w'
def PSub (w0 : World) (f0 : FP) (L L' : List HP) : Prop := ∀ w, St w0 f0 L w → St w0 f0 L' w
theorem PSub.refl {L : List HP} : PSub w0 f0 L L := fun _ h => h

theorem s_loop (S : σ → List (Nat × Value)) (I : σ → List HP) (J : σ → Prop) (μ : σ → Nat) (s0 : σ) (h0 : fits f (S s0)) (hJ : J s0) (hL : PSub w0 f0 L (I s0))
    (body : ∀ f s, J s → sC P n w0 f0 c (lpS w0 f0 QC S I J μ s) (ups f (S s)) (I s)) : sC P n w0 f0 (.loop c) QC f L := by
  intro w H
  refine wC_loop S (fun s w => J s ∧ St w0 f0 (I s) w) μ s0 h0 ⟨hJ, hL w H⟩ ?_
  rintro f s w ⟨hj, H⟩
  refine wC_mono (body f s hj w H) ?_
  intro e f' w' q
  cases e <;> exact q
theorem e_lp {S : σ → List (Nat × Value)} {I : σ → List HP} {J : σ → Prop} {μ : σ → Nat} {s : σ} (s' : σ) (hf : fits f (S s')) (hJ : J s') (hm : μ s' < μ s) (hL : PSub w0 f0 L (I s')) : sE w0 f0 (lpS w0 f0 QC S I J μ s) .normal f L :=
  fun w H => ⟨s', hf, ⟨hJ, hL w H⟩, hm⟩
theorem e_lp_ret {S : σ → List (Nat × Value)} {I : σ → List HP} {J : σ → Prop} {μ : σ → Nat} {s : σ} (h : sE w0 f0 QC .ret f L) : sE w0 f0 (lpS w0 f0 QC S I J μ s) .ret f L := h
theorem e_lp_exit {S : σ → List (Nat × Value)} {I : σ → List HP} {J : σ → Prop} {μ : σ → Nat} {s : σ} (h : sE w0 f0 QC (.exit id) f L) : sE w0 f0 (lpS w0 f0 QC S I J μ s) (.exit id) f L := h
/-- The first part, cut off: what is left is told by S, I, J. -/
theorem s_cut (S : σ → List (Nat × Value)) (I : σ → List HP) (J : σ → Prop) (h1 : sC P n w0 f0 c1 (ctS w0 f0 QC S I J) f L)
    (h2 : ∀ f s, J s → sC P n w0 f0 c2 QC (ups f (S s)) (I s)) : sC P n w0 f0 (.seq c1 c2) QC f L := by
  intro w H
  refine wC_cut S (fun s w => J s ∧ St w0 f0 (I s) w) (wC_mono (h1 w H) ?_) ?_
  · intro e f' w' q
    cases e <;> exact q
  · rintro f s w ⟨hj, H⟩
    exact h2 f s hj w H
theorem e_ct {S : σ → List (Nat × Value)} {I : σ → List HP} {J : σ → Prop} (s' : σ) (hf : fits f (S s')) (hJ : J s') (hL : PSub w0 f0 L (I s')) : sE w0 f0 (ctS w0 f0 QC S I J) .normal f L :=
  fun w H => ⟨s', hf, hJ, hL w H⟩
theorem e_ct_ret {S : σ → List (Nat × Value)} {I : σ → List HP} {J : σ → Prop} (h : sE w0 f0 QC .ret f L) : sE w0 f0 (ctS w0 f0 QC S I J) .ret f L := h
theorem e_ct_exit {S : σ → List (Nat × Value)} {I : σ → List HP} {J : σ → Prop} (h : sE w0 f0 QC (.exit id) f L) : sE w0 f0 (ctS w0 f0 QC S I J) (.exit id) f L := h
/-- Pieces let go, or turned, in the middle of the walk. -/
theorem s_sub (hL : PSub w0 f0 L L') (h : sC P n w0 f0 c QC f L') : sC P n w0 f0 c QC f L := fun w H => h w (hL w H)
theorem so_sub {l : List Oper} (hL : PSub w0 f0 L L') (h : sO P n w0 f0 ops m l QC f L') : sO P n w0 f0 ops m l QC f L := fun w H => h w (hL w H)
theorem se_sub (hL : PSub w0 f0 L L') (h : sE w0 f0 QC e f L') : sE w0 f0 QC e f L := fun w H => h w (hL w H)

/-! ### permutations and dropping -/
def pickL : List Nat → List HP → List HP × List HP
  | [], L => ([], L)
  | i :: is, L => match L[i]? with
    | some A => let r := pickL is (L.eraseIdx i); (A :: r.1, r.2)
    | none => pickL is L
theorem St.front {w : World} (H : St w0 f0 L w) (i : Nat) {A : HP} (hi : L[i]? = some A) : St w0 f0 (A :: L.eraseIdx i) w := by
  obtain ⟨f, hf, hfb⟩ := H.sf
  obtain ⟨f1, f2, e1, e2, e3, e4, _⟩ := hf.focus i hi
  exact ⟨H.step, f, ⟨f1, f2, e1, e2, e3, e4⟩, hfb⟩
theorem St.cons_mono {A : HP} {w : World} (H : St w0 f0 (A :: L) w) (h : ∀ w f, SF L w f → SF L' w f) : St w0 f0 (A :: L') w := by
  obtain ⟨f, ⟨f1, f2, e1, e2, e3, e4⟩, hfb⟩ := H.sf
  exact ⟨H.step, f, ⟨f1, f2, e1, e2, e3, h _ _ e4⟩, hfb⟩
theorem SF.front {w : World} {f : FP} (hf : SF L w f) (i : Nat) {A : HP} (hi : L[i]? = some A) : SF (A :: L.eraseIdx i) w f := by
  obtain ⟨f1, f2, e1, e2, e3, e4, _⟩ := hf.focus i hi
  exact ⟨f1, f2, e1, e2, e3, e4⟩
theorem SF.pick {w : World} : ∀ (is : List Nat) {L : List HP} {f : FP}, SF L w f → SF ((pickL is L).1 ++ (pickL is L).2) w f
  | [], L, f, h => h
  | i :: is, L, f, h => by
    unfold pickL
    cases hi : L[i]? with
    | none => exact SF.pick is h
    | some A =>
      obtain ⟨f1, f2, e1, e2, e3, e4⟩ := h.front i hi
      exact ⟨f1, f2, e1, e2, e3, SF.pick is e4⟩
theorem St.pick {w : World} (H : St w0 f0 L w) (is : List Nat) : St w0 f0 ((pickL is L).1 ++ (pickL is L).2) w := by
  obtain ⟨f, hf, hfb⟩ := H.sf
  exact ⟨H.step, f, hf.pick is, hfb⟩
/-- The pieces at these places (each place in what is left yet), in this order; the others are let go. -/
theorem PSub.take (is : List Nat) (h : (pickL is L).1 = L') : PSub w0 f0 L L' := by
  intro w H
  have H := H.pick is
  rw [h] at H
  obtain ⟨f, hf, hfb⟩ := H.sf
  obtain ⟨f1, f2, e1, e2, e3, e4⟩ := SF.app.1 hf
  exact ⟨H.step, f1, e3, fun b hb => hfb b ((e1 b).2 (.inl hb))⟩
theorem PSub.trans {L1 L2 L3 : List HP} (h : PSub w0 f0 L1 L2) (k : PSub w0 f0 L2 L3) : PSub w0 f0 L1 L3 := fun w H => k w (h w H)

/-! ### what only reckons -/
variable {d : Tmp} {ty t yt : TypeId} {pos : String} {after : Array Edge}
theorem s_move (h : sO P n w0 f0 ops m rest QC (up f d (ev f x)) L) (hd : Nat.blt d n = true := by rfl) : sO P n w0 f0 ops m (⟨some d, .move x, ty, pos, after, none⟩ :: rest) QC f L := fun w H => o_move (h w H) hd
theorem s_assign (h : sO P n w0 f0 ops m rest QC (up f d (ev f x)) L) (hd : Nat.blt d n = true := by rfl) : sO P n w0 f0 ops m (⟨some d, .assign x, ty, pos, after, none⟩ :: rest) QC f L := fun w H => o_assign (h w H) hd
theorem s_pick {b : Bool} (hx : ev f x = .bool b) (h : sO P n w0 f0 ops m rest QC (up f d (bif b then ev f y else ev f z)) L) (hd : Nat.blt d n = true := by rfl) : sO P n w0 f0 ops m (⟨some d, .pick x y z, ty, pos, after, none⟩ :: rest) QC f L := fun w H => o_pick b hx (h w H) hd
theorem s_add {k : IntKind} {a b : Int} (hx : ev f x = .int k a) (hy : ev f y = .int k b) (h : sO P n w0 f0 ops m rest QC (up f d (.int k (k.wrap (a + b)))) L) (hd : Nat.blt d n = true := by rfl) : sO P n w0 f0 ops m (⟨some d, .binOp .add t x y yt, ty, pos, after, none⟩ :: rest) QC f L := fun w H => o_add hx hy (h w H) hd
theorem s_add64 {a b : Int} (hx : ev f x = .int .i64 a) (hy : ev f y = .int .i64 b) (hr : -9223372036854775808 ≤ a + b ∧ a + b ≤ 9223372036854775807) (h : sO P n w0 f0 ops m rest QC (up f d (.int .i64 (a + b))) L) (hd : Nat.blt d n = true := by rfl) : sO P n w0 f0 ops m (⟨some d, .binOp .add t x y yt, ty, pos, after, none⟩ :: rest) QC f L := fun w H => o_add64 hx hy hr (h w H) hd
theorem s_addN {a b : Nat} (hx : ev f x = .int .i64 (a : Int)) (hy : ev f y = .int .i64 (b : Int)) (hr : a + b ≤ 9223372036854775807) (h : sO P n w0 f0 ops m rest QC (up f d (.int .i64 ((a + b : Nat) : Int))) L) (hd : Nat.blt d n = true := by rfl) : sO P n w0 f0 ops m (⟨some d, .binOp .add t x y yt, ty, pos, after, none⟩ :: rest) QC f L := s_add64 hx hy (by omega) (by rw [← Int.natCast_add]; exact h) hd
theorem s_add1 {a : Nat} (hx : ev f x = .int .i64 (a : Int)) (hy : ev f y = .int .i64 1) (hr : a < 9223372036854775807) (h : sO P n w0 f0 ops m rest QC (up f d (.int .i64 ((a + 1 : Nat) : Int))) L) (hd : Nat.blt d n = true := by rfl) : sO P n w0 f0 ops m (⟨some d, .binOp .add t x y yt, ty, pos, after, none⟩ :: rest) QC f L := s_addN (b := 1) hx hy (by omega) h hd
theorem s_sub64 {a b : Int} (hx : ev f x = .int .i64 a) (hy : ev f y = .int .i64 b) (hr : -9223372036854775808 ≤ a - b ∧ a - b ≤ 9223372036854775807) (h : sO P n w0 f0 ops m rest QC (up f d (.int .i64 (a - b))) L) (hd : Nat.blt d n = true := by rfl) : sO P n w0 f0 ops m (⟨some d, .binOp .sub t x y yt, ty, pos, after, none⟩ :: rest) QC f L := fun w H => o_sub64 hx hy hr (h w H) hd
theorem s_subW {k : IntKind} {a b : Int} (hx : ev f x = .int k a) (hy : ev f y = .int k b) (h : sO P n w0 f0 ops m rest QC (up f d (.int k (k.wrap (a - b)))) L) (hd : Nat.blt d n = true := by rfl) : sO P n w0 f0 ops m (⟨some d, .binOp .sub t x y yt, ty, pos, after, none⟩ :: rest) QC f L := fun w H => o_sub hx hy (h w H) hd
theorem s_mul64 {a b : Int} (hx : ev f x = .int .i64 a) (hy : ev f y = .int .i64 b) (hr : -9223372036854775808 ≤ a * b ∧ a * b ≤ 9223372036854775807) (h : sO P n w0 f0 ops m rest QC (up f d (.int .i64 (a * b))) L) (hd : Nat.blt d n = true := by rfl) : sO P n w0 f0 ops m (⟨some d, .binOp .mul t x y yt, ty, pos, after, none⟩ :: rest) QC f L := fun w H => o_mul64 hx hy hr (h w H) hd
theorem s_rem {k : IntKind} {a b : Int} (hx : ev f x = .int k a) (hy : ev f y = .int k b) (hb : b ≠ 0) (h : sO P n w0 f0 ops m rest QC (up f d (.int k (a.tmod b))) L) (hd : Nat.blt d n = true := by rfl) : sO P n w0 f0 ops m (⟨some d, .binOp .rem t x y yt, ty, pos, after, none⟩ :: rest) QC f L := fun w H => o_rem hx hy hb (h w H) hd
theorem s_quo {k : IntKind} {a b : Int} (hx : ev f x = .int k a) (hy : ev f y = .int k b) (hb : b ≠ 0) (h : sO P n w0 f0 ops m rest QC (up f d (.int k (k.wrap (a.tdiv b)))) L) (hd : Nat.blt d n = true := by rfl) : sO P n w0 f0 ops m (⟨some d, .binOp .quo t x y yt, ty, pos, after, none⟩ :: rest) QC f L := fun w H => o_quo hx hy hb (h w H) hd
theorem s_and {k : IntKind} {a b : Int} (hx : ev f x = .int k a) (hy : ev f y = .int k b) (h : sO P n w0 f0 ops m rest QC (up f d (.int k (k.wrap (BitVec.ofInt k.bits a &&& BitVec.ofInt k.bits b).toNat))) L) (hd : Nat.blt d n = true := by rfl) : sO P n w0 f0 ops m (⟨some d, .binOp .and t x y yt, ty, pos, after, none⟩ :: rest) QC f L := fun w H => o_and hx hy (h w H) hd
theorem s_eql {k : IntKind} {a b : Int} (hx : ev f x = .int k a) (hy : ev f y = .int k b) (h : sO P n w0 f0 ops m rest QC (up f d (.bool (decide (a = b)))) L) (hd : Nat.blt d n = true := by rfl) : sO P n w0 f0 ops m (⟨some d, .binOp .eql t x y yt, ty, pos, after, none⟩ :: rest) QC f L := fun w H => o_eql _ hx hy (by simp [BEq.beq]) (h w H) hd
theorem s_neq {k : IntKind} {a b : Int} (hx : ev f x = .int k a) (hy : ev f y = .int k b) (h : sO P n w0 f0 ops m rest QC (up f d (.bool (!decide (a = b)))) L) (hd : Nat.blt d n = true := by rfl) : sO P n w0 f0 ops m (⟨some d, .binOp .neq t x y yt, ty, pos, after, none⟩ :: rest) QC f L := fun w H => o_neq _ hx hy (by simp [bne, BEq.beq]) (h w H) hd
theorem s_lss {k : IntKind} {a b : Int} (hx : ev f x = .int k a) (hy : ev f y = .int k b) (h : sO P n w0 f0 ops m rest QC (up f d (.bool (decide (a < b)))) L) (hd : Nat.blt d n = true := by rfl) : sO P n w0 f0 ops m (⟨some d, .binOp .lss t x y yt, ty, pos, after, none⟩ :: rest) QC f L := fun w H => o_lss _ hx hy rfl (h w H) hd
theorem s_leq {k : IntKind} {a b : Int} (hx : ev f x = .int k a) (hy : ev f y = .int k b) (h : sO P n w0 f0 ops m rest QC (up f d (.bool (decide (a ≤ b)))) L) (hd : Nat.blt d n = true := by rfl) : sO P n w0 f0 ops m (⟨some d, .binOp .leq t x y yt, ty, pos, after, none⟩ :: rest) QC f L := fun w H => o_leq _ hx hy rfl (h w H) hd
theorem s_gtr {k : IntKind} {a b : Int} (hx : ev f x = .int k a) (hy : ev f y = .int k b) (h : sO P n w0 f0 ops m rest QC (up f d (.bool (decide (b < a)))) L) (hd : Nat.blt d n = true := by rfl) : sO P n w0 f0 ops m (⟨some d, .binOp .gtr t x y yt, ty, pos, after, none⟩ :: rest) QC f L := fun w H => o_gtr _ hx hy rfl (h w H) hd
theorem s_geq {k : IntKind} {a b : Int} (hx : ev f x = .int k a) (hy : ev f y = .int k b) (h : sO P n w0 f0 ops m rest QC (up f d (.bool (decide (b ≤ a)))) L) (hd : Nat.blt d n = true := by rfl) : sO P n w0 f0 ops m (⟨some d, .binOp .geq t x y yt, ty, pos, after, none⟩ :: rest) QC f L := fun w H => o_geq _ hx hy rfl (h w H) hd
theorem s_not {b : Bool} (hx : ev f x = .bool b) (h : sO P n w0 f0 ops m rest QC (up f d (.bool (!b))) L) (hd : Nat.blt d n = true := by rfl) : sO P n w0 f0 ops m (⟨some d, .unOp .not t x, ty, pos, after, none⟩ :: rest) QC f L := fun w H => o_not b hx (h w H) hd
theorem s_extract {vs : Array Value} {i : Nat} {v : Value} (hx : ev f x = .tuple vs) (hi : vs[i]? = some v) (h : sO P n w0 f0 ops m rest QC (up f d v) L) (hd : Nat.blt d n = true := by rfl) : sO P n w0 f0 ops m (⟨some d, .extract x i, ty, pos, after, none⟩ :: rest) QC f L := fun w H => o_extract hx hi (h w H) hd
theorem s_nilck {a : Addr} (hx : ev f x = .pointer (some a)) (h : sO P n w0 f0 ops m rest QC (up f d (.pointer (some a))) L) (hd : Nat.blt d n = true := by rfl) : sO P n w0 f0 ops m (⟨some d, .nilCheck x, ty, pos, after, none⟩ :: rest) QC f L := fun w H => o_nilck hx (h w H) hd
theorem s_func {fn : Fn} {l1 l2 : List Operand} {v1 v2 : List Value} (h1 : l1.map (ev f) = v1) (h2 : l2.map (ev f) = v2) (h : sO P n w0 f0 ops m rest QC (up f d (.func fn v1.toArray v2.toArray)) L) (hd : Nat.blt d n = true := by rfl) : sO P n w0 f0 ops m (⟨some d, .makeFunc fn l1.toArray l2.toArray, ty, pos, after, none⟩ :: rest) QC f L := fun w H => o_func h1 h2 (h w H) hd

/-! ### guards -/
variable {dst : Option Tmp} {op : Op} {type : TypeId} {j : Nat} {want : Bool}
theorem s_on (hj : (ops[j]?).bind (·.dst) = some d) (hb : f d = .bool want) (h : sO P n w0 f0 ops m (⟨dst, op, type, "", #[], none⟩ :: rest) QC f L) : sO P n w0 f0 ops m (⟨dst, op, type, pos, after, some (j, want)⟩ :: rest) QC f L :=
  fun w H => o_on hj hb fun pos after => h2 pos after (h w H)
where
  h2 {P : Program} {n : Nat} {ops : Array Oper} {m : Bool} {rest : List Oper} {f : Fr} {dst : Option Tmp} {op : Op} {type : TypeId} {Q : Fr → World → Prop} {w : World} (pos : String) (after : Array Edge) (h : wO P ops n m (⟨dst, op, type, "", #[], none⟩ :: rest) Q f w) : wO P ops n m (⟨dst, op, type, pos, after, none⟩ :: rest) Q f w := by
    unfold wO at h ⊢
    exact h
theorem s_off {b : Bool} (hj : (ops[j]?).bind (·.dst) = some d) (hb : f d = .bool b) (hne : (b == want) = false) (hd : dOk n dst = true) (h : sO P n w0 f0 ops m rest QC (upO f dst undef) L) : sO P n w0 f0 ops m (⟨dst, op, type, pos, after, some (j, want)⟩ :: rest) QC f L :=
  fun w H => o_off hj hb hne hd (h w H)
theorem s_offU (hj : (ops[j]?).bind (·.dst) = some d) (hb : f d = undef) (hd : dOk n dst = true) (hdn : Nat.blt d n = true) (h : sO P n w0 f0 ops m rest QC (upO f dst undef) L) : sO P n w0 f0 ops m (⟨dst, op, type, pos, after, some (j, want)⟩ :: rest) QC f L :=
  fun w H => o_offU hj hb hd hdn (h w H)
/-- The test of a guard, by cases. -/
theorem s_cases {b : Bool} (hj : (ops[j]?).bind (·.dst) = some d) (hb : f d = .bool b)
    (ht : b = true → sO P n w0 f0 ops m (⟨dst, op, type, pos, after, some (j, want)⟩ :: rest) QC (up f d (.bool true)) L) (hf : b = false → sO P n w0 f0 ops m (⟨dst, op, type, pos, after, some (j, want)⟩ :: rest) QC (up f d (.bool false)) L) : sO P n w0 f0 ops m (⟨dst, op, type, pos, after, some (j, want)⟩ :: rest) QC f L := by
  cases b with
  | true => have := ht rfl; rwa [up_self hb] at this
  | false => have := hf rfl; rwa [up_self hb] at this
theorem s_casesd {p : Prop} [Decidable p] (hj : (ops[j]?).bind (·.dst) = some d) (hb : f d = .bool (decide p))
    (ht : p → sO P n w0 f0 ops m (⟨dst, op, type, pos, after, some (j, want)⟩ :: rest) QC (up f d (.bool true)) L) (hf : ¬ p → sO P n w0 f0 ops m (⟨dst, op, type, pos, after, some (j, want)⟩ :: rest) QC (up f d (.bool false)) L) : sO P n w0 f0 ops m (⟨dst, op, type, pos, after, some (j, want)⟩ :: rest) QC f L :=
  s_cases hj hb (fun h => ht (of_decide_eq_true h)) fun h => hf (of_decide_eq_false h)
theorem s_casesn {p : Prop} [Decidable p] (hj : (ops[j]?).bind (·.dst) = some d) (hb : f d = .bool (!decide p))
    (ht : ¬ p → sO P n w0 f0 ops m (⟨dst, op, type, pos, after, some (j, want)⟩ :: rest) QC (up f d (.bool true)) L) (hf : p → sO P n w0 f0 ops m (⟨dst, op, type, pos, after, some (j, want)⟩ :: rest) QC (up f d (.bool false)) L) : sO P n w0 f0 ops m (⟨dst, op, type, pos, after, some (j, want)⟩ :: rest) QC f L :=
  s_cases hj hb (fun h => ht (by simpa using h)) fun h => hf (by simpa using h)
end
/-! which kind of goal, which kind of operation -/
section
variable {P : Program} {n : Nat} {w0 : World} {f0 : FP} {ops : Array Oper} {m : Bool} {rest : List Oper} {QC : Exit → Fr → World → Prop} {f : Fr} {L : List HP} {x y z : Operand} {e : Exit} {c : Code} {o : Oper} {g : Nat × Bool}
variable {d : Option Tmp} {ty t yt : TypeId} {pos : String} {after : Array Edge} {bop : BinOp} {op : Op} {k : Nat} {cc : Call}
theorem k_E (h : sE w0 f0 QC e f L) : sE w0 f0 QC e f L := h
theorem k_C (h : sC P n w0 f0 c QC f L) : sC P n w0 f0 c QC f L := h
theorem k_guard (h : sO P n w0 f0 ops m (⟨d, op, ty, pos, after, some g⟩ :: rest) QC f L) : sO P n w0 f0 ops m (⟨d, op, ty, pos, after, some g⟩ :: rest) QC f L := h
theorem k_load (h : sO P n w0 f0 ops m (⟨d, .load t x, ty, pos, after, none⟩ :: rest) QC f L) : sO P n w0 f0 ops m (⟨d, .load t x, ty, pos, after, none⟩ :: rest) QC f L := h
theorem k_bin (h : sO P n w0 f0 ops m (⟨d, .binOp bop t x y yt, ty, pos, after, none⟩ :: rest) QC f L) : sO P n w0 f0 ops m (⟨d, .binOp bop t x y yt, ty, pos, after, none⟩ :: rest) QC f L := h
theorem k_fld (h : sO P n w0 f0 ops m (⟨d, .fieldAddr t x k, ty, pos, after, none⟩ :: rest) QC f L) : sO P n w0 f0 ops m (⟨d, .fieldAddr t x k, ty, pos, after, none⟩ :: rest) QC f L := h
theorem k_idx (h : sO P n w0 f0 ops m (⟨d, .indexAddr t x y, ty, pos, after, none⟩ :: rest) QC f L) : sO P n w0 f0 ops m (⟨d, .indexAddr t x y, ty, pos, after, none⟩ :: rest) QC f L := h
theorem k_store (h : sO P n w0 f0 ops m (⟨d, .store t x y, ty, pos, after, none⟩ :: rest) QC f L) : sO P n w0 f0 ops m (⟨d, .store t x y, ty, pos, after, none⟩ :: rest) QC f L := h
theorem k_call (h : sO P n w0 f0 ops m (⟨d, .call cc, ty, pos, after, none⟩ :: rest) QC f L) : sO P n w0 f0 ops m (⟨d, .call cc, ty, pos, after, none⟩ :: rest) QC f L := h
end
attribute [irreducible] lpS ctS sqS bkS
end Go.Proofs.Ytfplmdjlgjgbgaa
