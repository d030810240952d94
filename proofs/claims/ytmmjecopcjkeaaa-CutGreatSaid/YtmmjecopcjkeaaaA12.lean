/- More rules: min, max, xor by one, elements of arrays, rows pulled out of many. -/
import Derived.Test.YtmmjecopcjkeaaaA11
namespace Go.Proofs.Ytmmjecopcjkeaaa
set_option linter.unusedVariables false
set_option linter.unusedSimpArgs false
open Go Go.RowKit

theorem takeN {α : Type} [Enc α] {xs : List α} {i : Nat} (h : i < xs.length) : xs.take i ++ [nth xs i] = xs.take (i + 1) := by rw [nth_get h, List.take_append_getElem]
theorem mapTakeN {α β : Type} [Enc α] {xs : List α} {f : α → β} {i : Nat} (h : i < xs.length) : (xs.map f).take (i + 1) = (xs.map f).take i ++ [f (nth xs i)] := by
  rw [← List.map_take, ← takeN h, List.map_append, List.map_take]; rfl
/-- The other of a pair. -/
def xor1 (q : Nat) : Nat := if q % 2 = 0 then q + 1 else q - 1
theorem xor1_eq (q : Nat) : q ^^^ 1 = xor1 q := by
  have h1 : (q ^^^ 1) / 2 = q / 2 := by rw [Nat.xor_div_two]; simp
  have h2 : (q ^^^ 1).testBit 0 = (q.testBit 0 ^^ (1 : Nat).testBit 0) := Nat.testBit_xor ..
  simp only [Nat.testBit_zero] at h2
  have h4 : ((q ^^^ 1) % 2 = 1) ↔ ¬ q % 2 = 1 := by
    by_cases hq : q % 2 = 1 <;> simp [hq] at h2 ⊢ <;> omega
  unfold xor1
  split <;> omega
theorem xor1_i64 (q : Nat) (hq : q < 4611686018427387904) : IntKind.i64.wrap ((BitVec.ofInt IntKind.i64.bits (q : Int) ^^^ BitVec.ofInt IntKind.i64.bits 1).toNat : Int) = (xor1 q : Int) := by
  have e : (BitVec.ofInt IntKind.i64.bits (q : Int) ^^^ BitVec.ofInt IntKind.i64.bits 1).toNat = xor1 q := by
    rw [BitVec.toNat_xor, BitVec.ofInt_natCast, BitVec.toNat_ofNat, show (BitVec.ofInt IntKind.i64.bits 1).toNat = 1 by decide, Nat.mod_eq_of_lt (Nat.lt_of_lt_of_le hq (by decide)), xor1_eq]
  rw [e]
  have : xor1 q ≤ q + 1 := by unfold xor1; split <;> omega
  exact i64_in _ (by omega)
section
variable {P : Program} {n : Nat} {w0 w1 w : World} {f0 f1 : FP} {ops : Array Oper} {m : Bool} {rest : List Oper} {QC : Exit → Fr → World → Prop} {f : Fr} {L L1 L2 : List HP}
variable {d : Tmp} {ty t yt e e2 : TypeId} {x y : Operand} {pos : String} {after : Array Edge} {α : Type} [I : Enc α] {sz bytes l c : Nat} {A : Option Addr} {xs : List α} {put : HP → List HP}
theorem s_xor1 {q : Nat} (hx : ev f x = .int .i64 (q : Int)) (hy : ev f y = .int .i64 1) (hq : q < 4611686018427387904) (h : sO P n w0 f0 ops m rest QC (up f d (.int .i64 (xor1 q : Int))) L) (hd : Nat.blt d n = true := by rfl) : sO P n w0 f0 ops m (⟨some d, .binOp .xor t x y yt, ty, pos, after, none⟩ :: rest) QC f L := by
  intro w H
  refine o_bin hx hy ?_ (h w H) hd
  rw [← xor1_i64 q hq]
  simp [binOp, Op.intBits]
theorem s_xor1I {q : Int} (hx : ev f x = .int .i64 q) (hy : ev f y = .int .i64 1) (h0 : 0 ≤ q) (hq : q < 4611686018427387904) (h : sO P n w0 f0 ops m rest QC (up f d (.int .i64 (xor1 q.toNat : Int))) L) (hd : Nat.blt d n = true := by rfl) : sO P n w0 f0 ops m (⟨some d, .binOp .xor t x y yt, ty, pos, after, none⟩ :: rest) QC f L :=
  s_xor1 (q := q.toNat) (by rw [Int.toNat_of_nonneg h0]; exact hx) hy (by omega) h hd
theorem s_min {k k' : IntKind} {a b : Int} {ats : Array TypeId} (hx : ev f x = .int k a) (hy : ev f y = .int k' b) (h : sO P n w0 f0 ops m rest QC (up f d (.int k (min a b))) L) (hd : Nat.blt d n = true := by rfl) : sO P n w0 f0 ops m (⟨some d, .call { callee := .builtin .min, args := #[x, y], argTypes := ats }, ty, pos, after, none⟩ :: rest) QC f L := by
  intro w H
  refine o_pure (v := .int k (min a b)) rfl hd ?_ (h w H)
  have : (if b < a then b else a) = min a b := by rw [Int.min_def]; split <;> split <;> omega
  simp [execOp, resolve, invoke, builtin, hx, hy, Builtin.min_, Builtin.min2, Result.andThen, this]
theorem s_max {k k' : IntKind} {a b : Int} {ats : Array TypeId} (hx : ev f x = .int k a) (hy : ev f y = .int k' b) (h : sO P n w0 f0 ops m rest QC (up f d (.int k (max a b))) L) (hd : Nat.blt d n = true := by rfl) : sO P n w0 f0 ops m (⟨some d, .call { callee := .builtin .max, args := #[x, y], argTypes := ats }, ty, pos, after, none⟩ :: rest) QC f L := by
  intro w H
  refine o_pure (v := .int k (max a b)) rfl hd ?_ (h w H)
  have : (if a < b then b else a) = max a b := by rw [Int.max_def]; split <;> split <;> omega
  simp [execOp, resolve, invoke, builtin, hx, hy, Builtin.max_, Builtin.max2, Result.andThen, this]
class ArT (P : Program) (t : TypeId) (e : outParam TypeId) (k : outParam Nat) : Prop where
  u : P.underlying t = some (.array k e)
/-- The address of an element of an array. -/
theorem s_idxV {k : Nat} {q : IntKind} {j : Nat} {a : Addr} [ha : ArT P t e k] [hE : Elt P e α I sz bytes] (hx : ev f x = .pointer (some a)) (hy : ev f y = .int q (j : Int)) (h1 : j < k)
    (hn : sO P n w0 f0 ops m rest QC (up f d (.pointer (some (a.add (j * sz))))) L) (hd : Nat.blt d n = true := by rfl) : sO P n w0 f0 ops m (⟨some d, .indexAddr t x y, ty, pos, after, none⟩ :: rest) QC f L := by
  intro w H
  obtain ⟨zv, hTI, _⟩ := hE.ex
  refine o_pure (v := .pointer (some (a.add (j * sz)))) rfl hd ?_ (hn w H)
  have h2 : ((j : Nat) : Int) < (k : Int) := by omega
  simp [execOp, hx, hy, Instr.indexAt, run_underlying ha.u, asIntOf, h2, hTI.size, Instr.sureAddr]
  intro h3
  omega
theorem map_eraseIdxR {α β : Type} (f : α → β) : ∀ (l : List α) (j : Nat), (l.map f).eraseIdx j = (l.eraseIdx j).map f
  | [], _ => by simp
  | x :: l, 0 => rfl
  | x :: l, j + 1 => by simp only [List.map_cons, List.eraseIdx_cons_succ, map_eraseIdxR f l j]
theorem PSub.rowOut {ss : List (Sl α)} {j : Nat} (hj : j < ss.length) : PSub w0 f0 (rws e ss :: L) (own e (nth ss j).A (nth ss j).xs.length (nth ss j).c (nth ss j).xs :: rws e (ss.eraseIdx j) :: L) := by
  intro w H
  have := H.pull 0 (Ls := ss.map fun s => own e s.A s.xs.length s.c s.xs) rfl j (R := own e (nth ss j).A (nth ss j).xs.length (nth ss j).c (nth ss j).xs) (by rw [List.getElem?_map, nth_some hj]; rfl)
  rw [map_eraseIdxR] at this
  exact this.head
theorem PSub.rowIn {ss : List (Sl α)} {j : Nat} {A : Option Addr} {l c : Nat} {xs : List α} (hj : j < ss.length) (hl : xs.length = l) : PSub w0 f0 (own e A l c xs :: rws e (ss.eraseIdx j) :: L) (rws e (ss.set j ⟨A, c, xs⟩) :: L) := by
  intro w H
  subst hl
  have h1 := H.last
  have := h1.push (R := own e A xs.length c xs) 0 (Ls := ss.map fun s => own e s.A s.xs.length s.c s.xs) j (by rw [map_eraseIdxR]; rfl) (by simpa using hj)
  have e1 : (ss.map fun s => own e s.A s.xs.length s.c s.xs).set j (own e A xs.length c xs) = (ss.set j (⟨A, c, xs⟩ : Sl α)).map fun s => own e s.A s.xs.length s.c s.xs := by rw [List.map_set]
  rw [e1] at this
  exact this
/-- Many empty rows. -/
theorem PSub.nilsRws (e : TypeId) (k : Nat) : PSub w0 f0 L (rws e (List.replicate k (⟨none, 0, []⟩ : Sl α)) :: L) := by
  induction k with
  | zero => exact PSub.nilRws e
  | succ k ih =>
    refine ih.trans ?_
    rw [show List.replicate (k + 1) (⟨none, 0, []⟩ : Sl α) = List.replicate k ⟨none, 0, []⟩ ++ [⟨none, 0, []⟩] by rw [List.replicate_succ']]
    exact PSub.joinNil
/-- A region in drawn order: what only reads (rs), beside it one element put behind a row (k1 lays it, k2 puts it), and behind them a chain. -/
theorem s_mixApp {id N k1 k2 : Nat} {rs : List Nat} {lo : List Oper} {F : Fr} {R : List HP} (u : α) {b : Tmp} {ty1 : TypeId} {pos1 : String} {after1 : Array Edge} [hs : SlT P t e] [hE : Elt P e α I sz bytes]
    (hk : opsAt lo [k1, k2] = [⟨some b, .buildSlice t 1 #[(0, y)], ty1, pos1, after1, none⟩, ⟨some d, .call { callee := .builtin .append, args := #[x, .tmp b], argTypes := #[t, t] }, ty, pos, after, none⟩]) (hm : P.follows .mixedOrders = true) (hB : mixB .any n lo N rs [k1, k2] = true)
    (hread : sO P n w0 f0 lo.toArray true (opsAt lo rs) (QCF F) f R) (hx : ∀ v, ev (up F b v) x = .slice A l c) (hu : (ev F y).cells.toList = I.enc u) (hb : (l + 1) * bytes ≤ 140737488355328)
    (hn : ∀ v A' c', sO P n w0 f0 lo.toArray false (lo.drop N) QC (up (up F b v) d (.slice A' (l + 1) c')) (own (I := I) e A' (l + 1) c' (xs ++ [u]) :: R)) (hd : Nat.blt d n = true := by rfl) (hdb : Nat.blt b n = true := by rfl) (hsz : 1 * sz ≤ 16777216 := by decide) :
    sC P n w0 f0 (.region id lo.toArray true) QC f (own (I := I) e A l c xs :: R) := by
  intro w H
  have Hi := H.idle (Step.drew w fun _ => False)
  refine wC_mix (J := fun w' => St w0 f0 R w') N rs [k1, k2] F hm hB ((H.idle (Step.drew w _)).drop 0) (fun w' H' => hread w' H') ?_
  rw [hk]
  simp only [wJ]
  refine lit_own (lp := [(0, y)]) (ty := ty1) [u] rfl hsz (by simp [hu]) (H.idle (Step.drew w _)) hdb fun q w' H' => ?_
  refine o_nil ⟨(H'.drop 0).drop 0, ?_⟩
  have hP : Pc (own (I := I) e (some ⟨q, 0, none⟩) 1 1 [u] :: own (I := I) e A l c xs :: R) A (own (I := I) e A l c xs) (fun Y => own (I := I) e (some ⟨q, 0, none⟩) 1 1 [u] :: Y :: R) := pc_next (h := pc_here)
  obtain ⟨g, hA, _⟩ := H'.focus 0 rfl
  have hsrc := Src.row (P := P) hs.u (show (row (some ⟨q, 0, none⟩) 1 1 e I.sz ([u].flatMap I.enc)).sat w' g from hA) (fun u' hu' => by simp at hu'; exact I.one _ _ hu')
  rw [hE.sz_eq] at hsrc
  refine app_own (ys := [u]) hP H' (hx _) (k := 1) (by show Src P sz t (up F b _ b) 1 _ w'; unfold up; rw [Nat.beq_refl]; exact hsrc) hb hd fun A' c' w2 H2 => ?_
  exact o_nil ⟨(H2.drop 0).drop 0, hn _ A' c' w2 (H2.drop 0)⟩
end
end Go.Proofs.Ytmmjecopcjkeaaa
