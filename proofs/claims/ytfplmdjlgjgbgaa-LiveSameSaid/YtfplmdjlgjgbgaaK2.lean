/- Rules for the operations that only reckon. -/
import Derived.Test.YtfplmdjlgjgbgaaK1
namespace Go.Proofs.Ytfplmdjlgjgbgaa
set_option linter.unusedVariables false
set_option linter.unusedSimpArgs false
open Go

theorem i64_in (n : Int) (h : -9223372036854775808 ≤ n ∧ n ≤ 9223372036854775807) : IntKind.i64.wrap n = n := IntWalk.i64_in n h

section
variable {P : Program} {n : Nat} {m : Bool} {ops : Array Oper} {rest : List Oper} {f : Fr} {w : World} {Q : Fr → World → Prop}
variable {d : Tmp} {x y z : Operand} {ty t : TypeId} {pos : String} {after : Array Edge}

theorem o_move (h : wO P ops n m rest Q (up f d (ev f x)) w) (hd : Nat.blt d n = true := by rfl) : wO P ops n m (⟨some d, .move x, ty, pos, after, none⟩ :: rest) Q f w :=
  o_pure rfl hd rfl h
theorem o_assign (h : wO P ops n m rest Q (up f d (ev f x)) w) (hd : Nat.blt d n = true := by rfl) : wO P ops n m (⟨some d, .assign x, ty, pos, after, none⟩ :: rest) Q f w :=
  o_pure rfl hd rfl h
theorem o_pick (b : Bool) (hx : ev f x = .bool b) (h : wO P ops n m rest Q (up f d (bif b then ev f y else ev f z)) w) (hd : Nat.blt d n = true := by rfl) : wO P ops n m (⟨some d, .pick x y z, ty, pos, after, none⟩ :: rest) Q f w := by
  refine o_pure (v := bif b then ev f y else ev f z) rfl hd ?_ h
  show (Sem.run P (do pure (Next.value (if ← asBool (ev f x) then ev f y else ev f z))) w) = _
  rw [hx]
  cases b <;> rfl

theorem o_bin {k : IntKind} {a b : Int} {op : BinOp} {v : Value} {yt : TypeId} (hx : ev f x = .int k a) (hy : ev f y = .int k b) (hv : (binOp op t (.int k a) (.int k b)).run P w = .ok v w)
    (h : wO P ops n m rest Q (up f d v) w) (hd : Nat.blt d n = true := by rfl) : wO P ops n m (⟨some d, .binOp op t x y yt, ty, pos, after, none⟩ :: rest) Q f w := by
  refine o_pure (v := v) rfl hd ?_ h
  show (Sem.run P (do pure (Next.value (← (do eqGuard op t x y (ev f x) (ev f y); binOp op t (ev f x) (ev f y))))) w) = _
  rw [hx, hy]
  have hg : (eqGuard op t x y (.int k a) (.int k b)).run P w = .ok () w := by cases op <;> rfl
  simp [hg, hv, Result.andThen]

theorem o_add {k : IntKind} {a b : Int} {yt : TypeId} (hx : ev f x = .int k a) (hy : ev f y = .int k b) (h : wO P ops n m rest Q (up f d (.int k (k.wrap (a + b)))) w) (hd : Nat.blt d n = true := by rfl) :
    wO P ops n m (⟨some d, .binOp .add t x y yt, ty, pos, after, none⟩ :: rest) Q f w := o_bin hx hy (by cases k <;> rfl) h hd
theorem o_add64 {a b : Int} {yt : TypeId} (hx : ev f x = .int .i64 a) (hy : ev f y = .int .i64 b) (hr : -9223372036854775808 ≤ a + b ∧ a + b ≤ 9223372036854775807) (h : wO P ops n m rest Q (up f d (.int .i64 (a + b))) w) (hd : Nat.blt d n = true := by rfl) :
    wO P ops n m (⟨some d, .binOp .add t x y yt, ty, pos, after, none⟩ :: rest) Q f w := o_add hx hy (by rw [i64_in _ hr]; exact h) hd
theorem o_sub {k : IntKind} {a b : Int} {yt : TypeId} (hx : ev f x = .int k a) (hy : ev f y = .int k b) (h : wO P ops n m rest Q (up f d (.int k (k.wrap (a - b)))) w) (hd : Nat.blt d n = true := by rfl) :
    wO P ops n m (⟨some d, .binOp .sub t x y yt, ty, pos, after, none⟩ :: rest) Q f w := o_bin hx hy (by cases k <;> rfl) h hd
theorem o_sub64 {a b : Int} {yt : TypeId} (hx : ev f x = .int .i64 a) (hy : ev f y = .int .i64 b) (hr : -9223372036854775808 ≤ a - b ∧ a - b ≤ 9223372036854775807) (h : wO P ops n m rest Q (up f d (.int .i64 (a - b))) w) (hd : Nat.blt d n = true := by rfl) :
    wO P ops n m (⟨some d, .binOp .sub t x y yt, ty, pos, after, none⟩ :: rest) Q f w := o_sub hx hy (by rw [i64_in _ hr]; exact h) hd
theorem o_eql {k : IntKind} {a b : Int} {yt : TypeId} (r : Bool) (hx : ev f x = .int k a) (hy : ev f y = .int k b) (hr : (a == b) = r) (h : wO P ops n m rest Q (up f d (.bool r)) w) (hd : Nat.blt d n = true := by rfl) :
    wO P ops n m (⟨some d, .binOp .eql t x y yt, ty, pos, after, none⟩ :: rest) Q f w := o_bin hx hy (by subst hr; cases k <;> rfl) h hd
theorem o_neq {k : IntKind} {a b : Int} {yt : TypeId} (r : Bool) (hx : ev f x = .int k a) (hy : ev f y = .int k b) (hr : (a != b) = r) (h : wO P ops n m rest Q (up f d (.bool r)) w) (hd : Nat.blt d n = true := by rfl) :
    wO P ops n m (⟨some d, .binOp .neq t x y yt, ty, pos, after, none⟩ :: rest) Q f w := o_bin hx hy (by subst hr; cases k <;> rfl) h hd
theorem o_lss {k : IntKind} {a b : Int} {yt : TypeId} (r : Bool) (hx : ev f x = .int k a) (hy : ev f y = .int k b) (hr : decide (a < b) = r) (h : wO P ops n m rest Q (up f d (.bool r)) w) (hd : Nat.blt d n = true := by rfl) :
    wO P ops n m (⟨some d, .binOp .lss t x y yt, ty, pos, after, none⟩ :: rest) Q f w := o_bin hx hy (by subst hr; cases k <;> rfl) h hd
theorem o_leq {k : IntKind} {a b : Int} {yt : TypeId} (r : Bool) (hx : ev f x = .int k a) (hy : ev f y = .int k b) (hr : decide (a ≤ b) = r) (h : wO P ops n m rest Q (up f d (.bool r)) w) (hd : Nat.blt d n = true := by rfl) :
    wO P ops n m (⟨some d, .binOp .leq t x y yt, ty, pos, after, none⟩ :: rest) Q f w := o_bin hx hy (by subst hr; cases k <;> rfl) h hd
theorem o_gtr {k : IntKind} {a b : Int} {yt : TypeId} (r : Bool) (hx : ev f x = .int k a) (hy : ev f y = .int k b) (hr : decide (a > b) = r) (h : wO P ops n m rest Q (up f d (.bool r)) w) (hd : Nat.blt d n = true := by rfl) :
    wO P ops n m (⟨some d, .binOp .gtr t x y yt, ty, pos, after, none⟩ :: rest) Q f w := o_bin hx hy (by subst hr; cases k <;> rfl) h hd
theorem o_geq {k : IntKind} {a b : Int} {yt : TypeId} (r : Bool) (hx : ev f x = .int k a) (hy : ev f y = .int k b) (hr : decide (a ≥ b) = r) (h : wO P ops n m rest Q (up f d (.bool r)) w) (hd : Nat.blt d n = true := by rfl) :
    wO P ops n m (⟨some d, .binOp .geq t x y yt, ty, pos, after, none⟩ :: rest) Q f w := o_bin hx hy (by subst hr; cases k <;> rfl) h hd

/-- !b -/
theorem o_not (b : Bool) (hx : ev f x = .bool b) (h : wO P ops n m rest Q (up f d (.bool (!b))) w) (hd : Nat.blt d n = true := by rfl) : wO P ops n m (⟨some d, .unOp .not t x, ty, pos, after, none⟩ :: rest) Q f w := by
  refine o_pure (v := .bool (!b)) rfl hd ?_ h
  show (Sem.run P (do pure (Next.value (← Op.unary .not (ev f x)))) w) = _
  rw [hx]
  rfl

/-- bools compared -/
theorem run_beq' {a b : Bool} (m : Nat) (ht : P.underlying t = some .bool) : (Op.equalIn (m + 1) t (.bool a) (.bool b)).run P w = .ok (a == b) w := by
  simp [Op.equalIn, run_underlying ht]
theorem run_beq {a b : Bool} (ht : P.underlying t = some .bool) : (Op.equal t (.bool a) (.bool b)).run P w = .ok (a == b) w := run_beq' 9999 ht
theorem o_beq {a b : Bool} {yt : TypeId} (ht : P.underlying t = some .bool) (hx : ev f x = .bool a) (hy : ev f y = .bool b) (h : wO P ops n m rest Q (up f d (.bool (a == b))) w) (hd : Nat.blt d n = true := by rfl) :
    wO P ops n m (⟨some d, .binOp .eql t x y yt, ty, pos, after, none⟩ :: rest) Q f w := by
  refine o_pure (v := .bool (a == b)) rfl hd ?_ h
  show (Sem.run P (do pure (Next.value (← (do eqGuard .eql t x y (ev f x) (ev f y); binOp .eql t (ev f x) (ev f y))))) w) = _
  rw [hx, hy]
  simp [eqGuard, binOp, run_beq ht, Result.andThen]
theorem o_bne {a b : Bool} {yt : TypeId} (ht : P.underlying t = some .bool) (hx : ev f x = .bool a) (hy : ev f y = .bool b) (h : wO P ops n m rest Q (up f d (.bool (!(a == b)))) w) (hd : Nat.blt d n = true := by rfl) :
    wO P ops n m (⟨some d, .binOp .neq t x y yt, ty, pos, after, none⟩ :: rest) Q f w := by
  refine o_pure (v := .bool (!(a == b))) rfl hd ?_ h
  show (Sem.run P (do pure (Next.value (← (do eqGuard .neq t x y (ev f x) (ev f y); binOp .neq t (ev f x) (ev f y))))) w) = _
  rw [hx, hy]
  simp [eqGuard, binOp, run_beq ht, Result.andThen]

theorem o_extract {vs : Array Value} {i : Nat} {v : Value} (hx : ev f x = .tuple vs) (hi : vs[i]? = some v) (h : wO P ops n m rest Q (up f d v) w) (hd : Nat.blt d n = true := by rfl) :
    wO P ops n m (⟨some d, .extract x i, ty, pos, after, none⟩ :: rest) Q f w := by
  refine o_pure (v := v) rfl hd ?_ h
  show (Sem.run P (do pure (Next.value (← Instr.extract (ev f x) i))) w) = _
  rw [hx]
  simp [Instr.extract, hi]

theorem o_func {fn : Fn} {l1 l2 : List Operand} {v1 v2 : List Value} (h1 : l1.map (ev f) = v1) (h2 : l2.map (ev f) = v2) (h : wO P ops n m rest Q (up f d (.func fn v1.toArray v2.toArray)) w) (hd : Nat.blt d n = true := by rfl) :
    wO P ops n m (⟨some d, .makeFunc fn l1.toArray l2.toArray, ty, pos, after, none⟩ :: rest) Q f w := by
  subst h1
  subst h2
  refine o_pure (v := .func fn (l1.map (ev f)).toArray (l2.map (ev f)).toArray) rfl hd ?_ h
  simp [execOp, Instr.makeFunc]

theorem o_len {e : TypeId} {A : Option Addr} {l c : Nat} (ht : P.underlying t = some (.slice e)) (hx : ev f x = .slice A l c) (h : wO P ops n m rest Q (up f d (.int .i64 l)) w) (hd : Nat.blt d n = true := by rfl) :
    wO P ops n m (⟨some d, .call { callee := .builtin .len, args := #[x], argTypes := #[t] }, ty, pos, after, none⟩ :: rest) Q f w := by
  refine o_pure (v := .int .i64 l) rfl hd ?_ h
  simp [execOp, resolve, invoke, builtin, hx, Builtin.len_, run_underlying ht, goInt, Result.andThen]

theorem o_nilck {a : Addr} (hx : ev f x = .pointer (some a)) (h : wO P ops n m rest Q (up f d (.pointer (some a))) w) (hd : Nat.blt d n = true := by rfl) : wO P ops n m (⟨some d, .nilCheck x, ty, pos, after, none⟩ :: rest) Q f w := by
  refine o_pure (v := .pointer (some a)) rfl hd ?_ h
  simp [execOp, hx]

/-- a slice against nil -/
theorem run_snil' {A : Option Addr} {l c : Nat} {e : TypeId} (m : Nat) (ht : P.underlying t = some (.slice e)) : (Op.equalIn (m + 1) t (.slice A l c) (.slice none 0 0)).run P w = .ok A.isNone w := by
  cases A <;> simp [Op.equalIn, run_underlying ht]
theorem o_snil {A : Option Addr} {l c : Nat} {yt e : TypeId} (ht : P.underlying t = some (.slice e)) (hx : ev f x = .slice A l c) (hy : ev f y = .slice none 0 0) (h : wO P ops n m rest Q (up f d (.bool A.isNone)) w) (hd : Nat.blt d n = true := by rfl) :
    wO P ops n m (⟨some d, .binOp .eql t x y yt, ty, pos, after, none⟩ :: rest) Q f w := by
  refine o_pure (v := .bool A.isNone) rfl hd ?_ h
  show (Sem.run P (do pure (Next.value (← (do eqGuard .eql t x y (ev f x) (ev f y); binOp .eql t (ev f x) (ev f y))))) w) = _
  rw [hx, hy]
  have he : (Op.equal t (.slice A l c) (.slice none 0 0)).run P w = .ok A.isNone w := run_snil' 9999 ht
  simp [eqGuard, binOp, he, Result.andThen]

end
end Go.Proofs.Ytfplmdjlgjgbgaa
