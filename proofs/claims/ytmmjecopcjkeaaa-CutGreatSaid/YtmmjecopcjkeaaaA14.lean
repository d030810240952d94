/- Bits of whole numbers. -/
import Derived.Test.YtmmjecopcjkeaaaA13
namespace Go.Proofs.Ytmmjecopcjkeaaa
set_option linter.unusedVariables false
set_option linter.unusedSimpArgs false
open Go Go.RowKit

class InT (P : Program) (t : TypeId) (k : outParam IntKind) : Prop where
  u : P.underlying t = some (.int k)
theorem u64_in (n : Int) (h0 : 0 ≤ n) (h1 : n < 18446744073709551616) : IntKind.u64.wrap n = n := by
  simp only [IntKind.wrap, IntKind.bits, IntKind.signed]
  simp
  omega
section
variable {P : Program} {n : Nat} {w0 : World} {f0 : FP} {ops : Array Oper} {m : Bool} {rest : List Oper} {QC : Exit → Fr → World → Prop} {f : Fr} {L : List HP}
variable {d : Tmp} {ty t yt : TypeId} {x y : Operand} {pos : String} {after : Array Edge}
theorem s_convU {src dst : TypeId} [hs : InT P src .i64] [ht : InT P dst .u64] {v : Nat} (hx : ev f x = .int .i64 (v : Int)) (hv : v < 9223372036854775808) (h : sO P n w0 f0 ops m rest QC (up f d (.int .u64 (v : Int))) L) (hd : Nat.blt d n = true := by rfl) :
    sO P n w0 f0 ops m (⟨some d, .convert src dst x, ty, pos, after, none⟩ :: rest) QC f L := s_conv hs.u ht.u hx (by rw [u64_in _ (by omega) (by omega)]; exact h) hd
theorem s_convUI {src dst : TypeId} [hs : InT P src .i64] [ht : InT P dst .u64] {v : Int} (hx : ev f x = .int .i64 v) (h0 : 0 ≤ v) (hv : v < 9223372036854775808) (h : sO P n w0 f0 ops m rest QC (up f d (.int .u64 (v.toNat : Int))) L) (hd : Nat.blt d n = true := by rfl) :
    sO P n w0 f0 ops m (⟨some d, .convert src dst x, ty, pos, after, none⟩ :: rest) QC f L := s_convU (v := v.toNat) (by rw [Int.toNat_of_nonneg h0]; exact hx) (by omega) h hd
theorem s_shr {a k : Nat} (hx : ev f x = .int .i64 (a : Int)) (hy : ev f y = .int .u64 (k : Int)) (hk : k ≤ 63) (h : sO P n w0 f0 ops m rest QC (up f d (.int .i64 ((a / 2 ^ k : Nat) : Int))) L) (hd : Nat.blt d n = true := by rfl) : sO P n w0 f0 ops m (⟨some d, .binOp .shr t x y yt, ty, pos, after, none⟩ :: rest) QC f L := by
  intro w H
  refine o_pure (v := .int .i64 ((a / 2 ^ k : Nat) : Int)) rfl hd ?_ (h w H)
  show (Sem.run P (do pure (Next.value (← (do eqGuard .shr t x y (ev f x) (ev f y); binOp .shr t (ev f x) (ev f y))))) w) = _
  rw [hx, hy]
  have h1 : ¬ ((k : Int) < 0) := by omega
  have h2 : min k 64 = k := by omega
  have e : (a : Int).fdiv (2 ^ k) = ((a / 2 ^ k : Nat) : Int) := by
    rw [Int.fdiv_eq_ediv_of_nonneg _ (Int.le_of_lt (Int.pow_pos (by decide))), Int.natCast_ediv, Int.natCast_pow]; rfl
  simp [eqGuard, binOp, Op.shift, h1, IntKind.bits, h2, e, Result.andThen]
theorem s_shl1 {k : Nat} (hx : ev f x = .int .i64 1) (hy : ev f y = .int .u64 (k : Int)) (hk : k ≤ 62) (h : sO P n w0 f0 ops m rest QC (up f d (.int .i64 ((2 ^ k : Nat) : Int))) L) (hd : Nat.blt d n = true := by rfl) : sO P n w0 f0 ops m (⟨some d, .binOp .shl t x y yt, ty, pos, after, none⟩ :: rest) QC f L := by
  intro w H
  refine o_pure (v := .int .i64 ((2 ^ k : Nat) : Int)) rfl hd ?_ (h w H)
  show (Sem.run P (do pure (Next.value (← (do eqGuard .shl t x y (ev f x) (ev f y); binOp .shl t (ev f x) (ev f y))))) w) = _
  rw [hx, hy]
  have h1 : ¬ ((k : Int) < 0) := by omega
  have h2 : min k 64 = k := by omega
  have hp : (2 : Nat) ^ k ≤ 2 ^ 62 := Nat.pow_le_pow_right (by decide) hk
  have e : IntKind.i64.wrap (2 ^ k : Int) = ((2 ^ k : Nat) : Int) := by
    rw [show ((2 : Int) ^ k) = ((2 ^ k : Nat) : Int) by rw [Int.natCast_pow]; rfl]
    have hu : ((2 ^ k : Nat) : Int) ≤ ((2 ^ 62 : Nat) : Int) := Int.ofNat_le.2 hp
    have hz : (0 : Int) ≤ ((2 ^ k : Nat) : Int) := Int.natCast_nonneg _
    generalize ((2 ^ k : Nat) : Int) = z at hu hz ⊢
    have hc : ((2 ^ 62 : Nat) : Int) = 4611686018427387904 := by decide
    exact i64_in _ (by omega)
  simp [eqGuard, binOp, Op.shift, h1, IntKind.bits, h2, e, Result.andThen]
theorem s_and1 {a : Nat} (hx : ev f x = .int .i64 (a : Int)) (hy : ev f y = .int .i64 1) (ha : a < 9223372036854775808) (h : sO P n w0 f0 ops m rest QC (up f d (.int .i64 ((a % 2 : Nat) : Int))) L) (hd : Nat.blt d n = true := by rfl) : sO P n w0 f0 ops m (⟨some d, .binOp .and t x y yt, ty, pos, after, none⟩ :: rest) QC f L := by
  refine s_and hx hy ?_ hd
  have e : IntKind.i64.wrap ((BitVec.ofInt IntKind.i64.bits (a : Int) &&& BitVec.ofInt IntKind.i64.bits 1).toNat : Int) = ((a % 2 : Nat) : Int) := by
    rw [BitVec.toNat_and, BitVec.ofInt_natCast, BitVec.toNat_ofNat, show (BitVec.ofInt IntKind.i64.bits 1).toNat = 1 by decide, Nat.mod_eq_of_lt (Nat.lt_of_lt_of_le ha (by decide)), Nat.and_one_is_mod]
    exact i64_in _ (by omega)
  rw [e]; exact h
theorem s_orN {a b : Nat} (hx : ev f x = .int .i64 (a : Int)) (hy : ev f y = .int .i64 (b : Int)) (ha : a < 4611686018427387904) (hb : b < 4611686018427387904) (h : sO P n w0 f0 ops m rest QC (up f d (.int .i64 ((a ||| b : Nat) : Int))) L) (hd : Nat.blt d n = true := by rfl) : sO P n w0 f0 ops m (⟨some d, .binOp .or t x y yt, ty, pos, after, none⟩ :: rest) QC f L := by
  intro w H
  refine o_bin hx hy ?_ (h w H) hd
  have hor : a ||| b < 2 ^ 62 := Nat.or_lt_two_pow (by omega) (by omega)
  have e : IntKind.i64.wrap ((BitVec.ofInt IntKind.i64.bits (a : Int) ||| BitVec.ofInt IntKind.i64.bits (b : Int)).toNat : Int) = ((a ||| b : Nat) : Int) := by
    rw [BitVec.toNat_or, BitVec.ofInt_natCast, BitVec.ofInt_natCast, BitVec.toNat_ofNat, BitVec.toNat_ofNat, Nat.mod_eq_of_lt (Nat.lt_of_lt_of_le ha (by decide)), Nat.mod_eq_of_lt (Nat.lt_of_lt_of_le hb (by decide))]
    exact i64_in _ (by omega)
  rw [← e]
  simp [binOp, Op.intBits]
end
end Go.Proofs.Ytmmjecopcjkeaaa
