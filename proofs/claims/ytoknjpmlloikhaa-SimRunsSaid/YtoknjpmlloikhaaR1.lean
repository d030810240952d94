/- Layer 8: the machine, plainly. -/
import Derived.Test.YtoknjpmlloikhaaJ1
import Derived.Test.YtoknjpmlloikhaaW1
namespace Go.Proofs.Ytoknjpmlloikhaa
set_option linter.unusedVariables false
set_option linter.unusedSimpArgs false
open Go Go.RowKit

/-- A call under way. -/
structure Frm where
  fn : Nat
  block : Nat
  at_ : Nat
  vals : Int → Option Int
  dst : Int
/-- A run under way: calls (the innermost last), value, trap, leaks, steps, how deep it was, words, is it at an end? -/
structure Mch where
  fs : List Frm
  val : Int
  trap : Int
  leaks : List ApiLeak
  steps : Nat
  deep : Nat
  mem : List (List Int)
  fin : Bool
def getV (v : Int → Option Int) (x : Int) : Int := (v x).getD 0
def putF (v : Int → Option Int) (x y : Int) : Int → Option Int := upd v x (some y)
/-- The first few parameters become what the others were. -/
def putN (ps as' : List Int) (v : Int → Option Int) : Nat → Int → Option Int
  | 0 => v
  | n + 1 => putF (putN ps as' v n) (nth ps n) (nth as' n)
/-- All of them, at once. -/
def putAll (ps as' : List Int) (v : Int → Option Int) : Int → Option Int := putN ps as' v ps.length
/-- The words of an array. -/
def Mch.row (m : Mch) (j : Nat) : List Int := m.mem.getD j []
def Mch.leak (m : Mch) (l : ApiLeak) : Mch := { m with leaks := m.leaks ++ [l] }
def Mch.stop (m : Mch) (t : Int) : Mch := { m with trap := t, fin := true }
/-- The innermost call, turned. -/
def Mch.top (m : Mch) (f : Frm) : Mch := { m with fs := m.fs.set (m.fs.length - 1) f }
def enterM (p : SsaProg) (m : Mch) (fn : Nat) (args : List Int) (dst : Int) : Option Mch :=
  if 2000 ≤ m.fs.length then none
  else some { m with fs := m.fs ++ [⟨fn, 0, 0, putAll (parsF p fn) args fun _ => none, dst⟩], deep := max m.deep (m.fs.length + 1) }
def leaveM (m : Mch) (f : Frm) (v : Int) : Mch :=
  if m.fs.length ≤ 1 then { m with fs := [], val := v, fin := true }
  else
    let fs := m.fs.take (m.fs.length - 1)
    match fs[fs.length - 1]? with
    | some g => { m with fs := fs.set (fs.length - 1) { g with vals := putF g.vals f.dst v } }
    | none => m
def wayM (p : SsaProg) (m : Mch) (f : Frm) (e : SsaEnd) (w : Nat) : Mch :=
  m.top { f with block := (nth e.fWays.xs w).fTo.toNat, at_ := 0, vals := putAll (nth (nth p.fFuncs.xs f.fn).fBlocks.xs (nth e.fWays.xs w).fTo.toNat).fParams.xs ((nth e.fWays.xs w).fArgs.xs.map (getV f.vals)) f.vals }
def finishM (p : SsaProg) (m : Mch) (f : Frm) (e : SsaEnd) : Mch :=
  if e.fKind = 3 then leaveM m f (getV f.vals e.fVal)
  else if e.fKind = 4 then m.stop e.fTrap
  else if e.fKind = 2 then
    let yes : Int := if getV f.vals e.fVal ≠ 0 then 1 else 0
    wayM p (m.leak ⟨1, yes, 0⟩) f e (1 - yes).toNat
  else wayM p m f e 0
def divides (o : Int) : Prop := o = 4 ∨ o = 5
instance (o : Int) : Decidable (divides o) := by unfold divides; infer_instance
/-- An instruction, done by the innermost call. -/
def doI (p : SsaProg) (m : Mch) (f : Frm) (i : SsaIns) : Option Mch :=
  let a := i.fArgs.xs.map (getV f.vals)
  if i.fOp = 1 then some (m.top { f with vals := putF f.vals i.fDst i.fNum })
  else if i.fOp = 2 then
    let m1 := if divides i.fBin then m.leak ⟨3, nth a 0, nth a 1⟩ else m
    let m2 := m1.top { f with vals := putF f.vals i.fDst (doW i.fBin (nth a 0) (nth a 1)).1 }
    some (if (doW i.fBin (nth a 0) (nth a 1)).2 = true then m2 else m2.stop 2)
  else if i.fOp = 3 then some (m.top { f with vals := putF f.vals i.fDst (nth (m.row i.fArr.toNat) 0) })
  else if i.fOp = 4 then some { m with mem := m.mem.set i.fArr.toNat ((m.row i.fArr.toNat).set 0 (nth a 0)) }
  else if i.fOp = 5 then
    let m1 := m.leak ⟨2, nth a 0, 0⟩
    if 0 ≤ nth a 0 ∧ nth a 0 < ((m.row i.fArr.toNat).length : Int) then some (m1.top { f with vals := putF f.vals i.fDst (nth (m.row i.fArr.toNat) (nth a 0).toNat) })
    else some (m1.stop 4)
  else if i.fOp = 6 then
    let m1 := m.leak ⟨2, nth a 0, 0⟩
    if 0 ≤ nth a 0 ∧ nth a 0 < ((m.row i.fArr.toNat).length : Int) then some { m1 with mem := m.mem.set i.fArr.toNat ((m.row i.fArr.toNat).set (nth a 0).toNat (nth a 1)) }
    else some (m1.stop 4)
  else if i.fOp = 7 then enterM p m i.fFn.toNat a i.fDst
  else some m
def topM (m : Mch) : Option Frm := m.fs[m.fs.length - 1]?
/-- One step; none: there are too many calls. -/
def stepM (p : SsaProg) (m : Mch) : Option Mch :=
  match topM m with
  | none => some m
  | some f =>
    let b := nth (nth p.fFuncs.xs f.fn).fBlocks.xs f.block
    if f.at_ = b.fIns.xs.length then some (finishM p m f b.fEnd)
    else
      let f1 : Frm := { f with at_ := f.at_ + 1 }
      doI p (m.top f1) f1 (nth b.fIns.xs f.at_)
/-- What comes of a run: so many steps at most. -/
inductive Out where
  | out (m : Mch)
  | spent
def runM (p : SsaProg) (fuel : Int) : Nat → Mch → Out
  | 0, _ => .spent
  | n + 1, m =>
    if m.fin = true then .out m
    else if fuel ≤ m.steps then .spent
    else match stepM p { m with steps := m.steps + 1 } with
      | none => .spent
      | some m' => runM p fuel n m'
end Go.Proofs.Ytoknjpmlloikhaa
