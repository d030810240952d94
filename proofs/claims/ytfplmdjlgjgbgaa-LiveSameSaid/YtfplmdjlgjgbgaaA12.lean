/- More rules: min, max, xor by one, elements of arrays, rows pulled out of many. -/
import Derived.Test.YtfplmdjlgjgbgaaA11
namespace Go.Proofs.Ytfplmdjlgjgbgaa
set_option linter.unusedVariables false
set_option linter.unusedSimpArgs false
open Go Go.RowKit

theorem takeN {α : Type} [Enc α] {xs : List α} {i : Nat} (h : i < xs.length) : xs.take i ++ [nth xs i] = xs.take (i + 1) := by rw [nth_get h, List.take_append_getElem]
theorem mapTakeN {α β : Type} [Enc α] {xs : List α} {f : α → β} {i : Nat} (h : i < xs.length) : (xs.map f).take (i + 1) = (xs.map f).take i ++ [f (nth xs i)] := by
  rw [← List.map_take, ← takeN h, List.map_append, List.map_take]; rfl
/-- The other of a pair. -/
def xor1 (q : Nat) : Nat := if q % 2 = 0 then q + 1 else q - 1
theorem xor1_eq (q : Nat) : q ^^^ 1 = xor1 q := by
  have h1 : (q ^^^ 1) / 2 = q / 2 := by rw [Nat.xor_div_two]; simp
  have h2 : (q ^^^ 1).testBit 0 = (q.testBit 0 ^^ (1 : Nat).testBit 0) := Nat.testBit_xor ..
  simp only [Nat.testBit_zero] at h2
  have h4 : ((q ^^^ 1) % 2 = 1) ↔ ¬ q % 2 = 1 := by
    by_cases hq : q % 2 = 1 <;> simp [hq] at h2 ⊢ <;> omega
  unfold xor1
  split <;> omega
theorem xor1_i64 (q : Nat) (hq : q < 4611686018427387904) : IntKind.i64.wrap ((BitVec.ofInt IntKind.i64.bits (q : Int) ^^^ BitVec.ofInt IntKind.i64.bits 1).toNat : Int) = (xor1 q : Int) := by
  have e : (BitVec.ofInt IntKind.i64.bits (q : Int) ^^^ BitVec.ofInt IntKind.i64.bits 1).toNat = xor1 q := by
    rw [BitVec.toNat_xor, BitVec.ofInt_natCast, BitVec.toNat_ofNat, show (BitVec.ofInt IntKind.i64.bits 1).toNat = 1 by decide, Nat.mod_eq_of_lt (Nat.lt_of_lt_of_le hq (by decide)), xor1_eq]
  rw [e]
  have : xor1 q ≤ q + 1 := by unfold xor1; split <;> omega
  exact i64_in _ (by omega)
section
variable {P : Program} {n : Nat} {w0 w1 w : World} {f0 f1 : FP} {ops : Array Oper} {m : Bool} {rest : List Oper} {QC : Exit → Fr → World → Prop} {f : Fr} {L L1 L2 : List HP}
variable {d : Tmp} {ty t yt e e2 : TypeId} {x y : Operand} {pos : String} {after : Array Edge} {α : Type} [I : Enc α] {sz bytes l c : Nat} {A : Option Addr} {xs : List α} {put : HP → List HP}
theorem s_xor1 {q : Nat} (hx : ev f x = .int .i64 (q : Int)) (hy : ev f y = .int .i64 1) (hq : q < 4611686018427387904) (h : sO P n w0 f0 ops m rest QC (up f d (.int .i64 (xor1 q : Int))) L) (hd : Nat.blt d n = true := by rfl) : sO P n w0 f0 ops m (⟨some d, .binOp .xor t x y yt, ty, pos, after, none⟩ :: rest) QC f L := by
  intro w H
  refine o_bin hx hy ?_ (h w H) hd
  rw [← xor1_i64 q hq]
  simp [binOp, Op.intBits]
theorem s_xor1I {q : Int} (hx : ev f x = .int .i64 q) (hy : ev f y = .int .i64 1) (h0 : 0 ≤ q) (hq : q < 4611686018427387904) (h : sO P n w0 f0 ops m rest QC (up f d (.int .i64 (xor1 q.toNat : Int))) L) (hd : Nat.blt d n = true := by rfl) : sO P n w0 f0 ops m (⟨some d, .binOp .xor t x y yt, ty, pos, after, none⟩ :: rest) QC f L :=
  s_xor1 (q := q.toNat) (by rw [Int.toNat_of_nonneg h0]; exact hx) hy (by omega) h hd
theorem s_min {k k' : IntKind} {a b : Int} {ats : Array TypeId} (hx : ev f x = .int k a) (hy : ev f y = .int k' b) (h : sO P n w0 f0 ops m rest QC (up f d (.int k (min a b))) L) (hd : Nat.blt d n = true := by rfl) : sO P n w0 f0 ops m (⟨some d, .call { callee := .builtin .min, args := #[x, y], argTypes := ats }, ty, pos, after, none⟩ :: rest) QC f L := by
  intro w H
  refine o_pure (v := .int k (min a b)) rfl hd ?_ (h w H)
  have : (if b < a then b else a) = min a b := by rw [Int.min_def]; split <;> split <;> omega
  simp [execOp, resolve, invoke, builtin, hx, hy, Builtin.min_, Builtin.min2, Result.andThen, this]
theorem s_max {k k' : IntKind} {a b : Int} {ats : Array TypeId} (hx : ev f x = .int k a) (hy : ev f y = .int k' b) (h : sO P n w0 f0 ops m rest QC (up f d (.int k (max a b))) L) (hd : Nat.blt d n = true := by rfl) : sO P n w0 f0 ops m (⟨some d, .call { callee := .builtin .max, args := #[x, y], argTypes := ats }, ty, pos, after, none⟩ :: rest) QC f L := by
  intro w H
  refine o_pure (v := .int k (max a b)) rfl hd ?_ (h w H)
  have : (if a < b then b else a) = max a b := by rw [Int.max_def]; split <;> split <;> omega
  simp [execOp, resolve, invoke, builtin, hx, hy, Builtin.max_, Builtin.max2, Result.andThen, this]
class ArT (P : Program) (t : TypeId) (e : outParam TypeId) (k : outParam Nat) : Prop where
  u : P.underlying t = some (.array k e)
/-- The address of an element of an array. -/
theorem s_idxV {k : Nat} {q : IntKind} {j : Nat} {a : Addr} [ha : ArT P t e k] [hE : Elt P e α I sz bytes] (hx : ev f x = .pointer (some a)) (hy : ev f y = .int q (j : Int)) (h1 : j < k)
    (hn : sO P n w0 f0 ops m rest QC (up f d (.pointer (some (a.add (j * sz))))) L) (hd : Nat.blt d n = true := by rfl) : sO P n w0 f0 ops m (⟨some d, .indexAddr t x y, ty, pos, after, none⟩ :: rest) QC f L := by
  intro w H
  obtain ⟨zv, hTI, _⟩ := hE.ex
  refine o_pure (v := .pointer (some (a.add (j * sz)))) rfl hd ?_ (hn w H)
  have h2 : ((j : Nat) : Int) < (k : Int) := by omega
  simp [execOp, hx, hy, Instr.indexAt, run_underlying ha.u, asIntOf, h2, hTI.size, Instr.sureAddr]
  intro h3
  omega
theorem map_eraseIdxR {α β : Type} (f : α → β) : ∀ (l : List α) (j : Nat), (l.map f).eraseIdx j = (l.eraseIdx j).map f
  | [], _ => by simp
  | x :: l, 0 => rfl
  | x :: l, j + 1 => by simp only [List.map_cons, List.eraseIdx_cons_succ, map_eraseIdxR f l j]
theorem PSub.rowOut {ss : List (Sl α)} {j : Nat} (hj : j < ss.length) : PSub w0 f0 (rws e ss :: L) (own e (nth ss j).A (nth ss j).xs.length (nth ss j).c (nth ss j).xs :: rws e (ss.eraseIdx j) :: L) := by
  intro w H
  have := H.pull 0 (Ls := ss.map fun s => own e s.A s.xs.length s.c s.xs) rfl j (R := own e (nth ss j).A (nth ss j).xs.length (nth ss j).c (nth ss j).xs) (by rw [List.getElem?_map, nth_some hj]; rfl)
  rw [map_eraseIdxR] at this
  exact this.head
theorem PSub.rowIn {ss : List (Sl α)} {j : Nat} {A : Option Addr} {l c : Nat} {xs : List α} (hj : j < ss.length) (hl : xs.length = l) : PSub w0 f0 (own e A l c xs :: rws e (ss.eraseIdx j) :: L) (rws e (ss.set j ⟨A, c, xs⟩) :: L) := by
  intro w H
  subst hl
  have h1 := H.last
  have := h1.push (R := own e A xs.length c xs) 0 (Ls := ss.map fun s => own e s.A s.xs.length s.c s.xs) j (by rw [map_eraseIdxR]; rfl) (by simpa using hj)
  have e1 : (ss.map fun s => own e s.A s.xs.length s.c s.xs).set j (own e A xs.length c xs) = (ss.set j (⟨A, c, xs⟩ : Sl α)).map fun s => own e s.A s.xs.length s.c s.xs := by rw [List.map_set]
  rw [e1] at this
  exact this
/-- Many empty rows. -/
theorem PSub.nilsRws (e : TypeId) (k : Nat) : PSub w0 f0 L (rws e (List.replicate k (⟨none, 0, []⟩ : Sl α)) :: L) := by
  induction k with
  | zero => exact PSub.nilRws e
  | succ k ih =>
    refine ih.trans ?_
    rw [show List.replicate (k + 1) (⟨none, 0, []⟩ : Sl α) = List.replicate k ⟨none, 0, []⟩ ++ [⟨none, 0, []⟩] by rw [List.replicate_succ']]
    exact PSub.joinNil
/-- A region in drawn order: what only reads (rs), beside it one element put behind a row (k1 lays it, k2 puts it), and behind them a chain. -/
theorem s_mixApp {id N k1 k2 : Nat} {rs : List Nat} {lo : List Oper} {F : Fr} {R : List HP} (u : α) {b : Tmp} {ty1 : TypeId} {pos1 : String} {after1 : Array Edge} [hs : SlT P t e] [hE : Elt P e α I sz bytes]
    (hk : opsAt lo [k1, k2] = [⟨some b, .buildSlice t 1 #[(0, y)], ty1, pos1, after1, none⟩, ⟨some d, .call { callee := .builtin .append, args := #[x, .tmp b], argTypes := #[t, t] }, ty, pos, after, none⟩]) (hm : P.follows .mixedOrders = true) (hB : mixB .any n lo N rs [k1, k2] = true)
    (hread : sO P n w0 f0 lo.toArray true (opsAt lo rs) (QCF F) f R) (hx : ∀ v, ev (up F b v) x = .slice A l c) (hu : (ev F y).cells.toList = I.enc u) (hb : (l + 1) * bytes ≤ 140737488355328)
    (hn : ∀ v A' c', sO P n w0 f0 lo.toArray false (lo.drop N) QC (up (up F b v) d (.slice A' (l + 1) c')) (own (I := I) e A' (l + 1) c' (xs ++ [u]) :: R)) (hd : Nat.blt d n = true := by rfl) (hdb : Nat.blt b n = true := by rfl) (hsz : 1 * sz ≤ 16777216 := by decide) :
    sC P n w0 f0 (.region id lo.toArray true) QC f (own (I := I) e A l c xs :: R) := by
  intro w H
  have Hi := H.idle (Step.drew w fun _ => False)
  refine wC_mix (J := fun w' => St w0 f0 R w') N rs [k1, k2] F hm hB ((H.idle (Step.drew w _)).drop 0) (fun w' H' => hread w' H') ?_
  rw [hk]
  simp only [wJ]
  refine lit_own (lp := [(0, y)]) (ty := ty1) [u] rfl hsz (by simp [hu]) (H.idle (Step.drew w _)) hdb fun q w' H' => ?_
  refine o_nil ⟨(H'.drop 0).drop 0, ?_⟩
  have hP : Pc (own (I := I) e (some ⟨q, 0, none⟩) 1 1 [u] :: own (I := I) e A l c xs :: R) A (own (I := I) e A l c xs) (fun Y => own (I := I) e (some ⟨q, 0, none⟩) 1 1 [u] :: Y :: R) := pc_next (h := pc_here)
  obtain ⟨g, hA, _⟩ := H'.focus 0 rfl
  have hsrc := Src.row (P := P) hs.u (show (row (some ⟨q, 0, none⟩) 1 1 e I.sz ([u].flatMap I.enc)).sat w' g from hA) (fun u' hu' => by simp at hu'; exact I.one _ _ hu')
  rw [hE.sz_eq] at hsrc
  refine app_own (ys := [u]) hP H' (hx _) (k := 1) (by show Src P sz t (up F b _ b) 1 _ w'; unfold up; rw [Nat.beq_refl]; exact hsrc) hb hd fun A' c' w2 H2 => ?_
  exact o_nil ⟨(H2.drop 0).drop 0, hn _ A' c' w2 (H2.drop 0)⟩
end

/-- The value of a cell that holds a function. -/
inductive Fv where
  | no
  | fn (g : FuncId) (cap : List Value)
def Fv.v : Fv → Value
  | .no => .nilFunc
  | .fn g cap => .func (.func g) #[] cap.toArray
instance : Enc Fv where
  enc := fun x => [x.v]
  sz := 1
  dflt := .no
  len := fun _ => rfl
  one := by
    intro x u h
    simp only [List.mem_cons, List.not_mem_nil, or_false] at h
    subst h
    cases x <;> rfl
  pos := by decide
section
variable {P : Program} {n : Nat} {w0 w1 w : World} {f0 f1 : FP} {ops : Array Oper} {m : Bool} {rest : List Oper} {QC : Exit → Fr → World → Prop} {f : Fr} {L L1 L2 : List HP}
variable {d : Tmp} {ty t tx e : TypeId} {x y : Operand} {pos : String} {after : Array Edge} {α : Type} [I : Enc α] {sz bytes l c : Nat} {A : Option Addr}
theorem run_append_made (t tx ty e : TypeId) (i : TypeInfo) (z : Value) {q : IntKind} (ht : P.underlying t = some (.slice e)) (hx : P.underlying tx = some (.int q)) (hi : P.info? e = some i) (hz : i.zero = some z) (k : Nat) (h0 : 0 < k) (hs : 0 < i.size) (h63 : (k : Int) ≤ 9223372036854775807) (h48 : k * i.bytes ≤ 281474976710656) :
    (Builtin.append_ #[t, tx] ty #[.slice none 0 0, .int .i64 (k : Int)]).run P w =
      .ok (.slice (some ⟨w.heap.size, 0, none⟩) k (grownCap w k 0 e)) (w.drew.alloc (.cells (Builtin.zeroCells z.cells k ++ Builtin.zeroCells z.cells (grownCap w k 0 e - k)) e)) := by
  have hn : k ≠ 0 := by omega
  have h63' : ¬ (9223372036854775807 < (k : Int)) := by omega
  have h48' : ¬ (281474976710656 < Builtin.nextslicecap k 0 * i.bytes) := by rw [nextslicecap_zero h0]; omega
  have hw : IntKind.i64.wrap (k : Int) = (k : Int) := i64_in _ (by omega)
  have hk0 : ¬ ((k : Int) < 0) := by omega
  have hb : ¬ (281474976710656 < (k : Int) * (i.bytes : Int)) := by
    have h1 : ((k * i.bytes : Nat) : Int) ≤ 281474976710656 := by omega
    rw [Int.natCast_mul] at h1
    omega
  have hks : ¬ (k * i.size = 0) := Nat.pos_iff_ne_zero.1 (Nat.mul_pos h0 hs)
  have hs0 : i.size ≠ 0 := by omega
  simp [Builtin.append_, run_underlying ht, run_underlying hx, sizeOf, typeInfo, zeroValue, hi, hz, hn, h63', h48', Question.forced, run_firstCells_none, newRow, grownCap, asInt, asIntOf, Result.andThen, hw, hk0, hb, hs0]
  rw [if_neg hks]
  rfl
theorem s_appMk {q : IntKind} [hs : SlT P t e] [hE : Elt P e α I sz bytes] {k : Nat} (hti : P.underlying tx = some (.int q)) (hx : ev f x = .slice none 0 0) (hy : ev f y = .int .i64 (k : Int)) (hk : 0 < k) (hb : k * bytes ≤ 140737488355328)
    (hn : ∀ b c, sO P n w0 f0 ops false rest QC (up f d (.slice (some ⟨b, 0, none⟩) k c)) (own (I := I) e (some ⟨b, 0, none⟩) k c (List.replicate k I.dflt) :: L)) (hd : Nat.blt d n = true := by rfl) :
    sO P n w0 f0 ops false (⟨some d, .call { callee := .builtin .append, args := #[x, y], argTypes := #[t, tx] }, ty, pos, after, none⟩ :: rest) QC f L := by
  intro w H
  obtain ⟨zv, hTI, hzv⟩ := hE.ex
  have hsz := hE.sz_eq
  obtain ⟨i, hi, hz0, hz1, hz2⟩ := hTI.info
  subst hz1
  subst hz2
  have hpos : 0 < i.size := by rw [← hsz]; exact I.pos
  have hk2 : k ≤ 140737488355328 := Nat.le_trans (Nat.le_mul_of_pos_right _ hTI.posb) hb
  have hr := run_append_made (P := P) (w := w) t tx ty e i zv hs.u hti hi hz0 k hk hpos (by omega) (by omega)
  have hge := grownCap_ge w k 0 e
  have hcm : grownCap w k 0 e ≤ maxLen := grownCap_le_maxLen w k 0 e (by simp only [maxLen]; omega)
  have e1 : (Builtin.zeroCells zv.cells k).toList = (List.replicate k I.dflt).flatMap I.enc := by
    have := made_flat zv.cells k
    rw [hzv] at this
    exact this.trans (rep_flat k)
  have hl1 : ((List.replicate k I.dflt).flatMap I.enc).length = k * I.sz := by rw [flat_len (fun a _ => I.len a)]; simp
  refine o_val (w' := w.drew.alloc (.cells (Builtin.zeroCells zv.cells k ++ Builtin.zeroCells zv.cells (grownCap w k 0 e - k)) e)) (v := .slice (some ⟨w.heap.size, 0, none⟩) k (grownCap w k 0 e)) rfl hd ?_ (hn w.heap.size (grownCap w k 0 e) _ (St.head (H.add (own (I := I) e (some ⟨w.heap.size, 0, none⟩) k (grownCap w k 0 e) (List.replicate k I.dflt)) ((Step.drew w (fun _ => False)).trans (Step.alloc w.drew (fun _ => False) _) fun b hb => .inl hb) (g := fun x => x = w.heap.size) ?_ fun b hb => Nat.le_of_eq hb.symm)))
  · simp [execOp, resolve, invoke, builtin, hx, hy, hr]
  · refine ⟨hl1, hge, hcm, rfl, fun _ => Iff.rfl, _, heap_alloc_new w.drew _, ?_, ?_⟩
    · simp only [Array.size_append, size_zeroCells, hTI.zs, ← Nat.add_mul, Nat.zero_add]
      rw [show k + (grownCap w k 0 e - k) = grownCap w k 0 e by omega, hsz]
      exact Nat.le_refl _
    · simp only [Array.toList_append, List.drop_zero, e1]
      rw [← hl1]
      exact List.take_left
theorem s_cap [hs : SlT P t e] (hx : ev f x = .slice A l c) (h : sO P n w0 f0 ops m rest QC (up f d (.int .i64 (c : Int))) L) (hd : Nat.blt d n = true := by rfl) : sO P n w0 f0 ops m (⟨some d, .call { callee := .builtin .cap, args := #[x], argTypes := #[t] }, ty, pos, after, none⟩ :: rest) QC f L := by
  intro w H
  refine o_pure (v := .int .i64 (c : Int)) rfl hd ?_ (h w H)
  simp [execOp, resolve, invoke, builtin, hx, Builtin.cap_, run_underlying hs.u, goInt, Result.andThen]
end

class InT (P : Program) (t : TypeId) (k : outParam IntKind) : Prop where
  u : P.underlying t = some (.int k)
theorem u64_in (n : Int) (h0 : 0 ≤ n) (h1 : n < 18446744073709551616) : IntKind.u64.wrap n = n := by
  simp only [IntKind.wrap, IntKind.bits, IntKind.signed]
  simp
  omega
section
variable {P : Program} {n : Nat} {w0 : World} {f0 : FP} {ops : Array Oper} {m : Bool} {rest : List Oper} {QC : Exit → Fr → World → Prop} {f : Fr} {L : List HP}
variable {d : Tmp} {ty t yt : TypeId} {x y : Operand} {pos : String} {after : Array Edge}
theorem s_convU {src dst : TypeId} [hs : InT P src .i64] [ht : InT P dst .u64] {v : Nat} (hx : ev f x = .int .i64 (v : Int)) (hv : v < 9223372036854775808) (h : sO P n w0 f0 ops m rest QC (up f d (.int .u64 (v : Int))) L) (hd : Nat.blt d n = true := by rfl) :
    sO P n w0 f0 ops m (⟨some d, .convert src dst x, ty, pos, after, none⟩ :: rest) QC f L := s_conv hs.u ht.u hx (by rw [u64_in _ (by omega) (by omega)]; exact h) hd
theorem s_convUI {src dst : TypeId} [hs : InT P src .i64] [ht : InT P dst .u64] {v : Int} (hx : ev f x = .int .i64 v) (h0 : 0 ≤ v) (hv : v < 9223372036854775808) (h : sO P n w0 f0 ops m rest QC (up f d (.int .u64 (v.toNat : Int))) L) (hd : Nat.blt d n = true := by rfl) :
    sO P n w0 f0 ops m (⟨some d, .convert src dst x, ty, pos, after, none⟩ :: rest) QC f L := s_convU (v := v.toNat) (by rw [Int.toNat_of_nonneg h0]; exact hx) (by omega) h hd
theorem s_shr {a k : Nat} (hx : ev f x = .int .i64 (a : Int)) (hy : ev f y = .int .u64 (k : Int)) (hk : k ≤ 63) (h : sO P n w0 f0 ops m rest QC (up f d (.int .i64 ((a / 2 ^ k : Nat) : Int))) L) (hd : Nat.blt d n = true := by rfl) : sO P n w0 f0 ops m (⟨some d, .binOp .shr t x y yt, ty, pos, after, none⟩ :: rest) QC f L := by
  intro w H
  refine o_pure (v := .int .i64 ((a / 2 ^ k : Nat) : Int)) rfl hd ?_ (h w H)
  show (Sem.run P (do pure (Next.value (← (do eqGuard .shr t x y (ev f x) (ev f y); binOp .shr t (ev f x) (ev f y))))) w) = _
  rw [hx, hy]
  have h1 : ¬ ((k : Int) < 0) := by omega
  have h2 : min k 64 = k := by omega
  have e : (a : Int).fdiv (2 ^ k) = ((a / 2 ^ k : Nat) : Int) := by
    rw [Int.fdiv_eq_ediv_of_nonneg _ (Int.le_of_lt (Int.pow_pos (by decide))), Int.natCast_ediv, Int.natCast_pow]; rfl
  simp [eqGuard, binOp, Op.shift, h1, IntKind.bits, h2, e, Result.andThen]
theorem s_shl1 {k : Nat} (hx : ev f x = .int .i64 1) (hy : ev f y = .int .u64 (k : Int)) (hk : k ≤ 62) (h : sO P n w0 f0 ops m rest QC (up f d (.int .i64 ((2 ^ k : Nat) : Int))) L) (hd : Nat.blt d n = true := by rfl) : sO P n w0 f0 ops m (⟨some d, .binOp .shl t x y yt, ty, pos, after, none⟩ :: rest) QC f L := by
  intro w H
  refine o_pure (v := .int .i64 ((2 ^ k : Nat) : Int)) rfl hd ?_ (h w H)
  show (Sem.run P (do pure (Next.value (← (do eqGuard .shl t x y (ev f x) (ev f y); binOp .shl t (ev f x) (ev f y))))) w) = _
  rw [hx, hy]
  have h1 : ¬ ((k : Int) < 0) := by omega
  have h2 : min k 64 = k := by omega
  have hp : (2 : Nat) ^ k ≤ 2 ^ 62 := Nat.pow_le_pow_right (by decide) hk
  have e : IntKind.i64.wrap (2 ^ k : Int) = ((2 ^ k : Nat) : Int) := by
    rw [show ((2 : Int) ^ k) = ((2 ^ k : Nat) : Int) by rw [Int.natCast_pow]; rfl]
    have hu : ((2 ^ k : Nat) : Int) ≤ ((2 ^ 62 : Nat) : Int) := Int.ofNat_le.2 hp
    have hz : (0 : Int) ≤ ((2 ^ k : Nat) : Int) := Int.natCast_nonneg _
    generalize ((2 ^ k : Nat) : Int) = z at hu hz ⊢
    have hc : ((2 ^ 62 : Nat) : Int) = 4611686018427387904 := by decide
    exact i64_in _ (by omega)
  simp [eqGuard, binOp, Op.shift, h1, IntKind.bits, h2, e, Result.andThen]
theorem s_and1 {a : Nat} (hx : ev f x = .int .i64 (a : Int)) (hy : ev f y = .int .i64 1) (ha : a < 9223372036854775808) (h : sO P n w0 f0 ops m rest QC (up f d (.int .i64 ((a % 2 : Nat) : Int))) L) (hd : Nat.blt d n = true := by rfl) : sO P n w0 f0 ops m (⟨some d, .binOp .and t x y yt, ty, pos, after, none⟩ :: rest) QC f L := by
  refine s_and hx hy ?_ hd
  have e : IntKind.i64.wrap ((BitVec.ofInt IntKind.i64.bits (a : Int) &&& BitVec.ofInt IntKind.i64.bits 1).toNat : Int) = ((a % 2 : Nat) : Int) := by
    rw [BitVec.toNat_and, BitVec.ofInt_natCast, BitVec.toNat_ofNat, show (BitVec.ofInt IntKind.i64.bits 1).toNat = 1 by decide, Nat.mod_eq_of_lt (Nat.lt_of_lt_of_le ha (by decide)), Nat.and_one_is_mod]
    exact i64_in _ (by omega)
  rw [e]; exact h
theorem s_orN {a b : Nat} (hx : ev f x = .int .i64 (a : Int)) (hy : ev f y = .int .i64 (b : Int)) (ha : a < 4611686018427387904) (hb : b < 4611686018427387904) (h : sO P n w0 f0 ops m rest QC (up f d (.int .i64 ((a ||| b : Nat) : Int))) L) (hd : Nat.blt d n = true := by rfl) : sO P n w0 f0 ops m (⟨some d, .binOp .or t x y yt, ty, pos, after, none⟩ :: rest) QC f L := by
  intro w H
  refine o_bin hx hy ?_ (h w H) hd
  have hor : a ||| b < 2 ^ 62 := Nat.or_lt_two_pow (by omega) (by omega)
  have e : IntKind.i64.wrap ((BitVec.ofInt IntKind.i64.bits (a : Int) ||| BitVec.ofInt IntKind.i64.bits (b : Int)).toNat : Int) = ((a ||| b : Nat) : Int) := by
    rw [BitVec.toNat_or, BitVec.ofInt_natCast, BitVec.ofInt_natCast, BitVec.toNat_ofNat, BitVec.toNat_ofNat, Nat.mod_eq_of_lt (Nat.lt_of_lt_of_le ha (by decide)), Nat.mod_eq_of_lt (Nat.lt_of_lt_of_le hb (by decide))]
    exact i64_in _ (by omega)
  rw [← e]
  simp [binOp, Op.intBits]
end

section
variable {P : Program} {n : Nat} {w0 : World} {f0 : FP} {ops : Array Oper} {rest : List Oper} {QC : Exit → Fr → World → Prop} {f : Fr} {L L0 : List HP} {o2 : Oper}
def jnS (w0 : World) (f0 : FP) (L0 : List HP) (nxt : Fr → World → Prop) : Exit → Fr → World → Prop := fun _ f' w' => St w0 f0 L0 w' ∧ nxt f' w'
theorem e_jn2 {nxt : Fr → World → Prop} (h1 : PSub w0 f0 L L0) (h2 : sO P n w0 f0 ops false [o2] (jnS w0 f0 L0 nxt) f L) : sE w0 f0 (jnS w0 f0 L0 fun f1 w1 => wO P ops n false [o2] (fun f2 w2 => St w0 f0 L0 w2 ∧ nxt f2 w2) f1 w1) .normal f L := fun w H => ⟨h1 w H, h2 w H⟩
theorem e_jnE (h1 : PSub w0 f0 L L0) (h2 : sO P n w0 f0 ops false rest QC f L) : sE w0 f0 (jnS w0 f0 L0 fun f2 w2 => wO P ops n false rest (fun f3 w3 => QC .normal f3 w3) f2 w2) .normal f L := fun w H => ⟨h1 w H, h2 w H⟩
/-- What only reads (rs) reads of L0 alone; beside it two steps (k1, k2) that leave L0 as it is; and behind them a chain. -/
theorem s_mixJ2 {id N k1 k2 : Nat} {rs : List Nat} {lo : List Oper} {F : Fr} {o1 : Oper} (L0 : List HP) (hk : opsAt lo [k1, k2] = [o1, o2]) (hm : P.follows .mixedOrders = true) (hB : mixB .any n lo N rs [k1, k2] = true) (hL0 : PSub w0 f0 L L0)
    (hread : sO P n w0 f0 lo.toArray true (opsAt lo rs) (QCF F) f L0) (h1 : sO P n w0 f0 lo.toArray false [o1] (jnS w0 f0 L0 fun f1 w1 => wO P lo.toArray n false [o2] (fun f2 w2 => St w0 f0 L0 w2 ∧ wO P lo.toArray n false (lo.drop N) (fun f3 w3 => QC .normal f3 w3) f2 w2) f1 w1) F L) :
    sC P n w0 f0 (.region id lo.toArray true) QC f L := by
  intro w H
  refine wC_mix (J := fun w' => St w0 f0 L0 w') N rs [k1, k2] F hm hB (hL0 _ (H.idle (Step.drew w _))) (fun w' H' => hread w' H') ?_
  rw [hk]
  simp only [wJ]
  exact h1 _ (H.idle (Step.drew w _))
end

section
variable {P : Program} {n : Nat} {w : World}
def rdAt (md : Region.Mode) (ops : Array Oper) (N : Nat) (K : Array Bool → Bool) : List Nat → Array Bool → Bool
  | [], listed => K listed
  | k :: rs, listed => (Region.ready md ops listed).contains k && Region.free md ops listed k && Nat.blt k N && rdAt md ops N K rs (listed.setIfInBounds k true)
def segAt (md : Region.Mode) (ops : Array Oper) (N : Nat) (ts : List Nat) : List (List Nat × Option Nat) → Array Bool → Bool
  | [], listed => seqAt md ops ts listed
  | (rs, none) :: more, listed => rdAt md ops N (segAt md ops N ts more) rs listed
  | (rs, some c) :: more, listed => rdAt md ops N (fun li => decide (Region.ready md ops li = [c]) && Nat.blt c N && segAt md ops N ts more (li.setIfInBounds c true)) rs listed
def segLen : List (List Nat × Option Nat) → Nat
  | [] => 0
  | (rs, none) :: more => rs.length + segLen more
  | (rs, some _) :: more => rs.length + (segLen more + 1)
def segB (md : Region.Mode) (m : Nat) (l : List Oper) (N : Nat) (segs : List (List Nat × Option Nat)) : Bool :=
  Region.noSelect l.toArray && Nat.blt N l.length && Region.sinkB md l.toArray N && Region.chainB md l.toArray N && (segs.all fun s => dstsB m (opsAt l s.1)) && Nat.beq (segLen segs) N &&
    segAt md l.toArray N ((List.range (l.length - N)).map (N + ·)) segs (Array.replicate l.toArray.size false)
def wSeg (P : Program) (l : List Oper) (n N : Nat) (J : World → Prop) (Qf : Fr → World → Prop) : List (List Nat × Option Nat) → Fr → World → Prop
  | [], f, w => wO P l.toArray n false (l.drop N) Qf f w
  | (rs, none) :: more, f, w => ∃ F, (∀ w', J w' → wO P l.toArray n true (opsAt l rs) (fun f' _ => f' = F) f w') ∧ wSeg P l n N J Qf more F w
  | (rs, some c) :: more, f, w => ∃ F, (∀ w', J w' → wO P l.toArray n true (opsAt l rs) (fun f' _ => f' = F) f w') ∧ wO P l.toArray n false (opsAt l [c]) (fun f' w' => J w' ∧ wSeg P l n N J Qf more f' w') F w

theorem wpJ_rds {J : World → Prop} {N M : Nat} {md : Region.Mode} {l : List Oper} {Q : Exit → Act → World → Prop} {F : Fr} (hp : ∀ e a w, e ≠ .normal → ¬ Q e a w)
    (hsel : Region.noSelect l.toArray = true) (hs : Region.sinkB md l.toArray N = true) (hc : Region.chainB md l.toArray N = true) (hn : N < l.toArray.size) (K : Array Bool → Bool) :
    ∀ (rs : List Nat) (listed : Array Bool) (a : Act), a.tmps.size = n → HeadInv md l.toArray N listed → dstsB n (opsAt l rs) = true → rdAt md l.toArray N K rs listed = true → J w →
      (∀ w', J w' → wpStill P l.toArray w' (fun a' => Sm n a' F) (opsAt l rs) a) →
      (∀ a listed, Sm n a F → HeadInv md l.toArray N listed → K listed = true → wpJ P md l.toArray J N Q M listed a w) → wpJ P md l.toArray J N Q (rs.length + M) listed a w
  | [], listed, a, _, inv, _, hB, hJ, h, hr => by
    rw [List.length_nil, Nat.zero_add]
    exact hr a listed (h w hJ) inv hB
  | k :: rs, listed, a, ha, inv, hD, hB, hJ, h, hr => by
    simp only [rdAt, Bool.and_eq_true] at hB
    obtain ⟨⟨⟨hr1, hf⟩, hkn⟩, hB'⟩ := hB
    have hkN : k < N := by rw [← Nat.blt_eq]; exact hkn
    have hk : k < l.length := by simp at hn; omega
    have h0 : l[k]? = some l[k] := List.getElem?_eq_getElem hk
    have h0' : l.toArray[k]? = some l[k] := by simp [h0]
    have e1 : opsAt l (k :: rs) = l[k] :: opsAt l rs := by simp [opsAt, h0]
    have hr' : k ∈ Region.ready md l.toArray listed := by simpa using hr1
    rw [e1] at hD
    simp only [dstsB, Bool.and_eq_true] at hD
    have hst : ∀ w', J w' → ∃ v, YieldsAt P l.toArray w' l[k] v a ∧ wpStill P l.toArray w' (fun a' => Sm n a' F) (opsAt l rs) (a.put l[k].dst v) := fun w' hw' => by
      have := h w' hw'
      rw [e1] at this
      refine yieldsAt_of_stOp h0' ?_
      unfold stOp
      simp only [h0']
      exact this
    have same : ∃ v, ∀ w', J w' → YieldsAt P l.toArray w' l[k] v a ∧ wpStill P l.toArray w' (fun a' => Sm n a' F) (opsAt l rs) (a.put l[k].dst v) := by
      cases hd : l[k].dst with
      | none => rw [hd] at hD; exact absurd hD.1 (by simp)
      | some d =>
        rw [hd] at hD
        simp only [Bool.and_eq_true] at hD
        obtain ⟨⟨hdn, hall⟩, _⟩ := hD
        have hdn : d < n := by rw [← Nat.blt_eq]; exact hdn
        refine ⟨F d, fun w' hw' => ?_⟩
        obtain ⟨v, hv, hv2⟩ := hst w' hw'
        have := still_keep hdn _ _ (fun o ho => by have := List.all_eq_true.1 hall o ho; simpa using this) hv2
        rw [hd] at this
        have e2 : (a.put (some d) v).tmps[d]? = some v := by
          show (a.tmps.setIfInBounds d v)[d]? = some v
          rw [Array.getElem?_setIfInBounds_self_of_lt (by rw [ha]; exact hdn)]
        rw [e2] at this
        cases this
        rw [← hd]
        exact ⟨hv, hv2⟩
    obtain ⟨v, hv⟩ := same
    rw [show (k :: rs).length + M = rs.length + M + 1 by simp; omega]
    exact wpJ_first h0' (Region.noSelect_spec hsel) hs hc hn hkN (fun c a w hq' => absurd hq' (hp _ _ _ (by simp))) _ listed a w inv (Region.free_spec h0' hf) hr' (fun w' hw' => (hv w' hw').1) hJ
      (wpJ_rds hp hsel hs hc hn K rs _ _ (by cases hd : l[k].dst <;> simp [Act.put, ha]) (inv.set hr' hkN) hD.2 hB' hJ (fun w' hw' => (hv w' hw').2) hr)

theorem wpJ_segs {J : World → Prop} {N : Nat} {md : Region.Mode} {l : List Oper} {Q : Exit → Act → World → Prop} {Qf : Fr → World → Prop} (hq : ∀ f a w, Sm n a f → Qf f w → Q .normal a w) (hp : ∀ e a w, e ≠ .normal → ¬ Q e a w)
    (hsel : Region.noSelect l.toArray = true) (hs : Region.sinkB md l.toArray N = true) (hc : Region.chainB md l.toArray N = true) (hn : N < l.toArray.size) (ts : List Nat) (hts : ∀ k ∈ ts, N ≤ k ∧ k < l.length) (hte : opsAt l ts = l.drop N) :
    ∀ (segs : List (List Nat × Option Nat)) (listed : Array Bool) (f : Fr) (a : Act) (w : World), Sm n a f → HeadInv md l.toArray N listed → (segs.all fun s => dstsB n (opsAt l s.1)) = true → segAt md l.toArray N ts segs listed = true → J w →
      wSeg P l n N J Qf segs f w → wpJ P md l.toArray J N Q (segLen segs + ts.length) listed a w
  | [], listed, f, a, w, hsm, inv, _, hB, hJ, h => by
    have := wpJ_of_seq (J := J) (N := N) (md := md) (l := l) (Qf := Qf) hq hp [] ts listed f a w (fun k hk => by cases hk) hts hsm hB (by
      simp only [opsAt, List.filterMap_nil, wJ]
      change wO P l.toArray n false (opsAt l ts) Qf f w
      rw [hte]; exact h)
    exact this
  | (rs, none) :: more, listed, f, a, w, hsm, inv, hD, hB, hJ, h => by
    simp only [List.all_cons, Bool.and_eq_true] at hD
    obtain ⟨F, h1, h2⟩ := h
    simp only [segLen, Nat.add_assoc]
    exact wpJ_rds (F := F) hp hsel hs hc hn _ rs listed a hsm.size inv hD.1 hB hJ (fun w' hw' => wC_mix.stillMono (fun a' h => by obtain ⟨f', h5, h6⟩ := h; exact h6 ▸ h5) (wO_still (h1 w' hw') hsm))
      fun a' listed' hs' inv' hB' => wpJ_segs hq hp hsel hs hc hn ts hts hte more listed' F a' w hs' inv' hD.2 hB' hJ h2
  | (rs, some c) :: more, listed, f, a, w, hsm, inv, hD, hB, hJ, h => by
    simp only [List.all_cons, Bool.and_eq_true] at hD
    obtain ⟨F, h1, h2⟩ := h
    simp only [segLen, Nat.add_assoc]
    refine wpJ_rds (F := F) hp hsel hs hc hn _ rs listed a hsm.size inv hD.1 hB hJ (fun w' hw' => wC_mix.stillMono (fun a' h => by obtain ⟨f', h5, h6⟩ := h; exact h6 ▸ h5) (wO_still (h1 w' hw') hsm))
      fun a' listed' hs' inv' hB' => ?_
    simp only [Bool.and_eq_true, decide_eq_true_eq] at hB'
    obtain ⟨⟨hrd, hcn⟩, hB'⟩ := hB'
    have hcN : c < N := by rw [← Nat.blt_eq]; exact hcn
    rw [show segLen more + (1 + ts.length) = segLen more + ts.length + 1 by omega]
    refine ⟨fun h1 => (by rw [hrd] at h1; cases h1), fun i hi => ?_⟩
    have hi' := hi
    rw [hrd] at hi
    obtain rfl : i = c := by simpa using hi
    have hk : i < l.length := by simp at hn; omega
    have h0 : l[i]? = some l[i] := List.getElem?_eq_getElem hk
    have e1 : opsAt l [i] = [l[i]] := by simp [opsAt, h0]
    rw [e1] at h2
    have h3 := wO_run h2 hs'
    have hw : wpOp P l.toArray (fun e a' w' => e = .normal ∧ ∃ f', Sm n a' f' ∧ J w' ∧ wSeg P l n N J Qf more f' w') i (wpList P l.toArray (fun e a' w' => e = .normal ∧ ∃ f', Sm n a' f' ∧ J w' ∧ wSeg P l n N J Qf more f' w') []) a' w := by
      unfold wpOp
      simp only [List.getElem?_toArray, h0]
      exact h3
    refine wpJ_of_seq.wpOp_mono' (fun a' w' h' => ?_) (fun e a w he h' => absurd h'.1 he) hw
    obtain ⟨_, f', hf', hJ', h4⟩ := h'
    exact ⟨fun _ => hJ', wpJ_segs hq hp hsel hs hc hn ts hts hte more _ f' a' w' hf' (inv'.set hi' hcN) hD.2 hB' hJ' h4⟩

theorem wC_segs {QC : Exit → Fr → World → Prop} {id : Nat} {l : List Oper} {f : Fr} (J : World → Prop) (N : Nat) (segs : List (List Nat × Option Nat)) (hm : P.follows .mixedOrders = true) (hB : segB .any n l N segs = true) (hJ : J w.drew)
    (h : wSeg P l n N J (fun f' w' => QC .normal f' w') segs f w.drew) : wC P n (.region id l.toArray true) QC f w := by
  unfold wC
  intro a ha
  simp only [segB, Bool.and_eq_true] at hB
  obtain ⟨⟨⟨⟨⟨⟨hsel, hn⟩, hs⟩, hc⟩, hD⟩, hlen⟩, hB⟩ := hB
  have hn : N < l.length := by rw [← Nat.blt_eq]; exact hn
  have hlen := Nat.eq_of_beq_eq_true hlen
  refine wp_mono (Q := fun e a' w' => e = .normal ∧ ∃ f', Sm n a' f' ∧ QC .normal f' w') ?_ (by rintro e a' w' ⟨rfl, h⟩; exact h)
  refine wp_region_any hm (wpAny_of_J (J := J) (n := N) _ _ _ _ ?_)
  have inv0 : HeadInv .any l.toArray N (Array.replicate l.toArray.size false) :=
    ⟨by simp, fun j oj _ hl => (by rw [getD_replicate_false] at hl; cases hl), fun t _ ht => getD_in (by simpa using ht) (getD_replicate_false _ _)⟩
  have := wpJ_segs (n := n) (J := J) (N := N) (md := .any) (l := l) (Q := fun e a' w' => e = .normal ∧ ∃ f', Sm n a' f' ∧ QC .normal f' w') (Qf := fun f' w' => QC .normal f' w')
    (fun f a w hs q => ⟨rfl, f, hs, q⟩) (fun e a w he h => he h.1) hsel hs hc (by simpa using hn) ((List.range (l.length - N)).map (N + ·)) (fun k hk => by
      obtain ⟨i, hi, rfl⟩ := List.mem_map.1 hk
      have := List.mem_range.1 hi
      omega) (opsAt_drop l _ N (by omega)) segs (Array.replicate l.toArray.size false) f a w.drew ha inv0 hD hB hJ h
  have e : segLen segs + ((List.range (l.length - N)).map (N + ·)).length = l.toArray.size := by simp; omega
  rw [e] at this
  exact this
end
section
variable {P : Program} {n : Nat} {w0 : World} {f0 : FP} {ops : Array Oper} {rest : List Oper} {QC : Exit → Fr → World → Prop} {f : Fr} {L L0 : List HP}
/-- The segments, on pieces: L0 is what is read of, and kept all the while. -/
def sSeg (P : Program) (n : Nat) (w0 : World) (f0 : FP) (l : List Oper) (N : Nat) (L0 : List HP) (QC : Exit → Fr → World → Prop) (segs : List (List Nat × Option Nat)) (f : Fr) (L : List HP) : Prop := ∀ w, St w0 f0 L w → wSeg P l n N (fun w' => St w0 f0 L0 w') (fun f' w' => QC .normal f' w') segs f w
def sgS (P : Program) (n : Nat) (w0 : World) (f0 : FP) (l : List Oper) (N : Nat) (L0 : List HP) (QC : Exit → Fr → World → Prop) (segs : List (List Nat × Option Nat)) : Exit → Fr → World → Prop := fun _ f' w' => St w0 f0 L0 w' ∧ wSeg P l n N (fun w' => St w0 f0 L0 w') (fun f' w' => QC .normal f' w') segs f' w'
variable {l : List Oper} {N : Nat} {segs : List (List Nat × Option Nat)} {rs : List Nat} {c : Nat}
theorem s_segs {id : Nat} (L0 : List HP) (N : Nat) (segs : List (List Nat × Option Nat)) (hm : P.follows .mixedOrders = true) (hB : segB .any n l N segs = true) (hL0 : PSub w0 f0 L L0) (h : sSeg P n w0 f0 l N L0 QC segs f L) : sC P n w0 f0 (.region id l.toArray true) QC f L :=
  fun w H => wC_segs (J := fun w' => St w0 f0 L0 w') N segs hm hB (hL0 _ (H.idle (Step.drew w _))) (h _ (H.idle (Step.drew w _)))
theorem sg_nil (h : sO P n w0 f0 l.toArray false (l.drop N) QC f L) : sSeg P n w0 f0 l N L0 QC [] f L := fun w H => h w H
theorem sg_rd (F : Fr) (hread : sO P n w0 f0 l.toArray true (opsAt l rs) (QCF F) f L0) (h : sSeg P n w0 f0 l N L0 QC segs F L) : sSeg P n w0 f0 l N L0 QC ((rs, none) :: segs) f L := fun w H => ⟨F, fun w' H' => hread w' H', h w H⟩
theorem sg_wr (F : Fr) (hread : sO P n w0 f0 l.toArray true (opsAt l rs) (QCF F) f L0) (h : sO P n w0 f0 l.toArray false (opsAt l [c]) (sgS P n w0 f0 l N L0 QC segs) F L) : sSeg P n w0 f0 l N L0 QC ((rs, some c) :: segs) f L := fun w H => ⟨F, fun w' H' => hread w' H', h w H⟩
theorem e_sg (h1 : PSub w0 f0 L L0) (h2 : sSeg P n w0 f0 l N L0 QC segs f L) : sE w0 f0 (sgS P n w0 f0 l N L0 QC segs) .normal f L := fun w H => ⟨h1 w H, h2 w H⟩
end
attribute [irreducible] sgS
end Go.Proofs.Ytfplmdjlgjgbgaa
