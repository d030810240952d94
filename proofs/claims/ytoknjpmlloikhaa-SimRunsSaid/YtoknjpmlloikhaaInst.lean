/- The types of this program, as Lean types (written by a program). -/
import Derived.Test.YtoknjpmlloikhaaA6
import Derived.Test.YtoknjpmlloikhaaFacts
namespace Go.Proofs.Ytoknjpmlloikhaa
set_option linter.unusedVariables false
set_option linter.unusedSimpArgs false
open Go Go.RowKit

structure SsaArray where
  fName : Str
  fHold : Int
  fSize : Int
instance : Enc SsaArray where
  enc := fun x => [.string x.fName.v, .int .i64 x.fHold, .int .i64 x.fSize]
  sz := 3
  dflt := ⟨Enc.dflt, Enc.dflt, Enc.dflt⟩
  len := fun _ => rfl
  one := by
    intro x u h
    simp only [List.mem_cons, List.not_mem_nil, or_false] at h
    rcases h with rfl | rfl | rfl <;> rfl
  pos := by decide
instance : Dp SsaArray where
  rd := fun ok w x => Dp.rd ok w x.fName ∧ Dp.rd ok w x.fHold ∧ Dp.rd ok w x.fSize
  loc := fun h hk => ⟨Dp.loc h.1 hk, Dp.loc h.2.1 hk, Dp.loc h.2.2 hk⟩
  dflt := fun ok w => ⟨Dp.dflt ok w, Dp.dflt ok w, Dp.dflt ok w⟩
instance {ok : FP} {w : World} {x : SsaArray} [h : RdD ok w x] : RdD ok w x.fName := ⟨h.h.1⟩
instance {ok : FP} {w : World} {x : SsaArray} [h : RdD ok w x] : RdD ok w x.fHold := ⟨h.h.2.1⟩
instance {ok : FP} {w : World} {x : SsaArray} [h : RdD ok w x] : RdD ok w x.fSize := ⟨h.h.2.2⟩
structure SsaIns where
  fOp : Int
  fDst : Int
  fArgs : Sl Int
  fNum : Int
  fBin : Int
  fArr : Int
  fFn : Int
instance : Enc SsaIns where
  enc := fun x => [.int .i64 x.fOp, .int .i64 x.fDst, .slice x.fArgs.A x.fArgs.xs.length x.fArgs.c, .int .i64 x.fNum, .int .i64 x.fBin, .int .i64 x.fArr, .int .i64 x.fFn]
  sz := 7
  dflt := ⟨Enc.dflt, Enc.dflt, Enc.dflt, Enc.dflt, Enc.dflt, Enc.dflt, Enc.dflt⟩
  len := fun _ => rfl
  one := by
    intro x u h
    simp only [List.mem_cons, List.not_mem_nil, or_false] at h
    rcases h with rfl | rfl | rfl | rfl | rfl | rfl | rfl <;> rfl
  pos := by decide
instance : Dp SsaIns where
  rd := fun ok w x => Dp.rd ok w x.fOp ∧ Dp.rd ok w x.fDst ∧ Dp.rd ok w x.fArgs ∧ Dp.rd ok w x.fNum ∧ Dp.rd ok w x.fBin ∧ Dp.rd ok w x.fArr ∧ Dp.rd ok w x.fFn
  loc := fun h hk => ⟨Dp.loc h.1 hk, Dp.loc h.2.1 hk, Dp.loc h.2.2.1 hk, Dp.loc h.2.2.2.1 hk, Dp.loc h.2.2.2.2.1 hk, Dp.loc h.2.2.2.2.2.1 hk, Dp.loc h.2.2.2.2.2.2 hk⟩
  dflt := fun ok w => ⟨Dp.dflt ok w, Dp.dflt ok w, Dp.dflt ok w, Dp.dflt ok w, Dp.dflt ok w, Dp.dflt ok w, Dp.dflt ok w⟩
instance {ok : FP} {w : World} {x : SsaIns} [h : RdD ok w x] : RdD ok w x.fOp := ⟨h.h.1⟩
instance {ok : FP} {w : World} {x : SsaIns} [h : RdD ok w x] : RdD ok w x.fDst := ⟨h.h.2.1⟩
instance {ok : FP} {w : World} {x : SsaIns} [h : RdD ok w x] : RdD ok w x.fArgs := ⟨h.h.2.2.1⟩
instance {ok : FP} {w : World} {x : SsaIns} [h : RdD ok w x] : RdD ok w x.fNum := ⟨h.h.2.2.2.1⟩
instance {ok : FP} {w : World} {x : SsaIns} [h : RdD ok w x] : RdD ok w x.fBin := ⟨h.h.2.2.2.2.1⟩
instance {ok : FP} {w : World} {x : SsaIns} [h : RdD ok w x] : RdD ok w x.fArr := ⟨h.h.2.2.2.2.2.1⟩
instance {ok : FP} {w : World} {x : SsaIns} [h : RdD ok w x] : RdD ok w x.fFn := ⟨h.h.2.2.2.2.2.2⟩
structure SsaEdge where
  fTo : Int
  fArgs : Sl Int
instance : Enc SsaEdge where
  enc := fun x => [.int .i64 x.fTo, .slice x.fArgs.A x.fArgs.xs.length x.fArgs.c]
  sz := 2
  dflt := ⟨Enc.dflt, Enc.dflt⟩
  len := fun _ => rfl
  one := by
    intro x u h
    simp only [List.mem_cons, List.not_mem_nil, or_false] at h
    rcases h with rfl | rfl <;> rfl
  pos := by decide
instance : Dp SsaEdge where
  rd := fun ok w x => Dp.rd ok w x.fTo ∧ Dp.rd ok w x.fArgs
  loc := fun h hk => ⟨Dp.loc h.1 hk, Dp.loc h.2 hk⟩
  dflt := fun ok w => ⟨Dp.dflt ok w, Dp.dflt ok w⟩
instance {ok : FP} {w : World} {x : SsaEdge} [h : RdD ok w x] : RdD ok w x.fTo := ⟨h.h.1⟩
instance {ok : FP} {w : World} {x : SsaEdge} [h : RdD ok w x] : RdD ok w x.fArgs := ⟨h.h.2⟩
structure SsaEnd where
  fKind : Int
  fVal : Int
  fWays : Sl SsaEdge
  fTrap : Int
instance : Enc SsaEnd where
  enc := fun x => [.int .i64 x.fKind, .int .i64 x.fVal, .slice x.fWays.A x.fWays.xs.length x.fWays.c, .int .i64 x.fTrap]
  sz := 4
  dflt := ⟨Enc.dflt, Enc.dflt, Enc.dflt, Enc.dflt⟩
  len := fun _ => rfl
  one := by
    intro x u h
    simp only [List.mem_cons, List.not_mem_nil, or_false] at h
    rcases h with rfl | rfl | rfl | rfl <;> rfl
  pos := by decide
instance : Dp SsaEnd where
  rd := fun ok w x => Dp.rd ok w x.fKind ∧ Dp.rd ok w x.fVal ∧ Dp.rd ok w x.fWays ∧ Dp.rd ok w x.fTrap
  loc := fun h hk => ⟨Dp.loc h.1 hk, Dp.loc h.2.1 hk, Dp.loc h.2.2.1 hk, Dp.loc h.2.2.2 hk⟩
  dflt := fun ok w => ⟨Dp.dflt ok w, Dp.dflt ok w, Dp.dflt ok w, Dp.dflt ok w⟩
instance {ok : FP} {w : World} {x : SsaEnd} [h : RdD ok w x] : RdD ok w x.fKind := ⟨h.h.1⟩
instance {ok : FP} {w : World} {x : SsaEnd} [h : RdD ok w x] : RdD ok w x.fVal := ⟨h.h.2.1⟩
instance {ok : FP} {w : World} {x : SsaEnd} [h : RdD ok w x] : RdD ok w x.fWays := ⟨h.h.2.2.1⟩
instance {ok : FP} {w : World} {x : SsaEnd} [h : RdD ok w x] : RdD ok w x.fTrap := ⟨h.h.2.2.2⟩
structure SsaBlock where
  fParams : Sl Int
  fIns : Sl SsaIns
  fEnd : SsaEnd
instance : Enc SsaBlock where
  enc := fun x => [.slice x.fParams.A x.fParams.xs.length x.fParams.c, .slice x.fIns.A x.fIns.xs.length x.fIns.c, .int .i64 x.fEnd.fKind, .int .i64 x.fEnd.fVal, .slice x.fEnd.fWays.A x.fEnd.fWays.xs.length x.fEnd.fWays.c, .int .i64 x.fEnd.fTrap]
  sz := 6
  dflt := ⟨Enc.dflt, Enc.dflt, Enc.dflt⟩
  len := fun _ => rfl
  one := by
    intro x u h
    simp only [List.mem_cons, List.not_mem_nil, or_false] at h
    rcases h with rfl | rfl | rfl | rfl | rfl | rfl <;> rfl
  pos := by decide
instance : Dp SsaBlock where
  rd := fun ok w x => Dp.rd ok w x.fParams ∧ Dp.rd ok w x.fIns ∧ Dp.rd ok w x.fEnd
  loc := fun h hk => ⟨Dp.loc h.1 hk, Dp.loc h.2.1 hk, Dp.loc h.2.2 hk⟩
  dflt := fun ok w => ⟨Dp.dflt ok w, Dp.dflt ok w, Dp.dflt ok w⟩
instance {ok : FP} {w : World} {x : SsaBlock} [h : RdD ok w x] : RdD ok w x.fParams := ⟨h.h.1⟩
instance {ok : FP} {w : World} {x : SsaBlock} [h : RdD ok w x] : RdD ok w x.fIns := ⟨h.h.2.1⟩
instance {ok : FP} {w : World} {x : SsaBlock} [h : RdD ok w x] : RdD ok w x.fEnd := ⟨h.h.2.2⟩
structure SsaFunc where
  fName : Str
  fBlocks : Sl SsaBlock
instance : Enc SsaFunc where
  enc := fun x => [.string x.fName.v, .slice x.fBlocks.A x.fBlocks.xs.length x.fBlocks.c]
  sz := 2
  dflt := ⟨Enc.dflt, Enc.dflt⟩
  len := fun _ => rfl
  one := by
    intro x u h
    simp only [List.mem_cons, List.not_mem_nil, or_false] at h
    rcases h with rfl | rfl <;> rfl
  pos := by decide
instance : Dp SsaFunc where
  rd := fun ok w x => Dp.rd ok w x.fName ∧ Dp.rd ok w x.fBlocks
  loc := fun h hk => ⟨Dp.loc h.1 hk, Dp.loc h.2 hk⟩
  dflt := fun ok w => ⟨Dp.dflt ok w, Dp.dflt ok w⟩
instance {ok : FP} {w : World} {x : SsaFunc} [h : RdD ok w x] : RdD ok w x.fName := ⟨h.h.1⟩
instance {ok : FP} {w : World} {x : SsaFunc} [h : RdD ok w x] : RdD ok w x.fBlocks := ⟨h.h.2⟩
structure SsaProg where
  fArrays : Sl SsaArray
  fFuncs : Sl SsaFunc
  fMain : Int
instance : Enc SsaProg where
  enc := fun x => [.slice x.fArrays.A x.fArrays.xs.length x.fArrays.c, .slice x.fFuncs.A x.fFuncs.xs.length x.fFuncs.c, .int .i64 x.fMain]
  sz := 3
  dflt := ⟨Enc.dflt, Enc.dflt, Enc.dflt⟩
  len := fun _ => rfl
  one := by
    intro x u h
    simp only [List.mem_cons, List.not_mem_nil, or_false] at h
    rcases h with rfl | rfl | rfl <;> rfl
  pos := by decide
instance : Dp SsaProg where
  rd := fun ok w x => Dp.rd ok w x.fArrays ∧ Dp.rd ok w x.fFuncs ∧ Dp.rd ok w x.fMain
  loc := fun h hk => ⟨Dp.loc h.1 hk, Dp.loc h.2.1 hk, Dp.loc h.2.2 hk⟩
  dflt := fun ok w => ⟨Dp.dflt ok w, Dp.dflt ok w, Dp.dflt ok w⟩
instance {ok : FP} {w : World} {x : SsaProg} [h : RdD ok w x] : RdD ok w x.fArrays := ⟨h.h.1⟩
instance {ok : FP} {w : World} {x : SsaProg} [h : RdD ok w x] : RdD ok w x.fFuncs := ⟨h.h.2.1⟩
instance {ok : FP} {w : World} {x : SsaProg} [h : RdD ok w x] : RdD ok w x.fMain := ⟨h.h.2.2⟩
structure ApiLeak where
  fKind : Int
  fA : Int
  fB : Int
instance : Enc ApiLeak where
  enc := fun x => [.int .i64 x.fKind, .int .i64 x.fA, .int .i64 x.fB]
  sz := 3
  dflt := ⟨Enc.dflt, Enc.dflt, Enc.dflt⟩
  len := fun _ => rfl
  one := by
    intro x u h
    simp only [List.mem_cons, List.not_mem_nil, or_false] at h
    rcases h with rfl | rfl | rfl <;> rfl
  pos := by decide
instance : Dp ApiLeak where
  rd := fun ok w x => Dp.rd ok w x.fKind ∧ Dp.rd ok w x.fA ∧ Dp.rd ok w x.fB
  loc := fun h hk => ⟨Dp.loc h.1 hk, Dp.loc h.2.1 hk, Dp.loc h.2.2 hk⟩
  dflt := fun ok w => ⟨Dp.dflt ok w, Dp.dflt ok w, Dp.dflt ok w⟩
instance {ok : FP} {w : World} {x : ApiLeak} [h : RdD ok w x] : RdD ok w x.fKind := ⟨h.h.1⟩
instance {ok : FP} {w : World} {x : ApiLeak} [h : RdD ok w x] : RdD ok w x.fA := ⟨h.h.2.1⟩
instance {ok : FP} {w : World} {x : ApiLeak} [h : RdD ok w x] : RdD ok w x.fB := ⟨h.h.2.2⟩
structure SimResult where
  fVal : Int
  fTrap : Int
  fLeaks : Sl ApiLeak
  fSteps : Int
  fDeep : Int
  fMem : Sl (Sl Int)
instance : Enc SimResult where
  enc := fun x => [.int .i64 x.fVal, .int .i64 x.fTrap, .slice x.fLeaks.A x.fLeaks.xs.length x.fLeaks.c, .int .i64 x.fSteps, .int .i64 x.fDeep, .slice x.fMem.A x.fMem.xs.length x.fMem.c]
  sz := 6
  dflt := ⟨Enc.dflt, Enc.dflt, Enc.dflt, Enc.dflt, Enc.dflt, Enc.dflt⟩
  len := fun _ => rfl
  one := by
    intro x u h
    simp only [List.mem_cons, List.not_mem_nil, or_false] at h
    rcases h with rfl | rfl | rfl | rfl | rfl | rfl <;> rfl
  pos := by decide
instance : Dp SimResult where
  rd := fun ok w x => Dp.rd ok w x.fVal ∧ Dp.rd ok w x.fTrap ∧ Dp.rd ok w x.fLeaks ∧ Dp.rd ok w x.fSteps ∧ Dp.rd ok w x.fDeep ∧ Dp.rd ok w x.fMem
  loc := fun h hk => ⟨Dp.loc h.1 hk, Dp.loc h.2.1 hk, Dp.loc h.2.2.1 hk, Dp.loc h.2.2.2.1 hk, Dp.loc h.2.2.2.2.1 hk, Dp.loc h.2.2.2.2.2 hk⟩
  dflt := fun ok w => ⟨Dp.dflt ok w, Dp.dflt ok w, Dp.dflt ok w, Dp.dflt ok w, Dp.dflt ok w, Dp.dflt ok w⟩
instance {ok : FP} {w : World} {x : SimResult} [h : RdD ok w x] : RdD ok w x.fVal := ⟨h.h.1⟩
instance {ok : FP} {w : World} {x : SimResult} [h : RdD ok w x] : RdD ok w x.fTrap := ⟨h.h.2.1⟩
instance {ok : FP} {w : World} {x : SimResult} [h : RdD ok w x] : RdD ok w x.fLeaks := ⟨h.h.2.2.1⟩
instance {ok : FP} {w : World} {x : SimResult} [h : RdD ok w x] : RdD ok w x.fSteps := ⟨h.h.2.2.2.1⟩
instance {ok : FP} {w : World} {x : SimResult} [h : RdD ok w x] : RdD ok w x.fDeep := ⟨h.h.2.2.2.2.1⟩
instance {ok : FP} {w : World} {x : SimResult} [h : RdD ok w x] : RdD ok w x.fMem := ⟨h.h.2.2.2.2.2⟩
structure Palingslaw08Own where
  fP : SsaProg
  fMem : Sl (Sl Int)
  fOut : Sl ApiLeak
  fLeft : Int
  fTrap : Int
  fSpent : Bool
instance : Enc Palingslaw08Own where
  enc := fun x => [.slice x.fP.fArrays.A x.fP.fArrays.xs.length x.fP.fArrays.c, .slice x.fP.fFuncs.A x.fP.fFuncs.xs.length x.fP.fFuncs.c, .int .i64 x.fP.fMain, .slice x.fMem.A x.fMem.xs.length x.fMem.c, .slice x.fOut.A x.fOut.xs.length x.fOut.c, .int .i64 x.fLeft, .int .i64 x.fTrap, .bool x.fSpent]
  sz := 8
  dflt := ⟨Enc.dflt, Enc.dflt, Enc.dflt, Enc.dflt, Enc.dflt, Enc.dflt⟩
  len := fun _ => rfl
  one := by
    intro x u h
    simp only [List.mem_cons, List.not_mem_nil, or_false] at h
    rcases h with rfl | rfl | rfl | rfl | rfl | rfl | rfl | rfl <;> rfl
  pos := by decide
instance : Dp Palingslaw08Own where
  rd := fun ok w x => Dp.rd ok w x.fP ∧ Dp.rd ok w x.fMem ∧ Dp.rd ok w x.fOut ∧ Dp.rd ok w x.fLeft ∧ Dp.rd ok w x.fTrap ∧ Dp.rd ok w x.fSpent
  loc := fun h hk => ⟨Dp.loc h.1 hk, Dp.loc h.2.1 hk, Dp.loc h.2.2.1 hk, Dp.loc h.2.2.2.1 hk, Dp.loc h.2.2.2.2.1 hk, Dp.loc h.2.2.2.2.2 hk⟩
  dflt := fun ok w => ⟨Dp.dflt ok w, Dp.dflt ok w, Dp.dflt ok w, Dp.dflt ok w, Dp.dflt ok w, Dp.dflt ok w⟩
instance {ok : FP} {w : World} {x : Palingslaw08Own} [h : RdD ok w x] : RdD ok w x.fP := ⟨h.h.1⟩
instance {ok : FP} {w : World} {x : Palingslaw08Own} [h : RdD ok w x] : RdD ok w x.fMem := ⟨h.h.2.1⟩
instance {ok : FP} {w : World} {x : Palingslaw08Own} [h : RdD ok w x] : RdD ok w x.fOut := ⟨h.h.2.2.1⟩
instance {ok : FP} {w : World} {x : Palingslaw08Own} [h : RdD ok w x] : RdD ok w x.fLeft := ⟨h.h.2.2.2.1⟩
instance {ok : FP} {w : World} {x : Palingslaw08Own} [h : RdD ok w x] : RdD ok w x.fTrap := ⟨h.h.2.2.2.2.1⟩
instance {ok : FP} {w : World} {x : Palingslaw08Own} [h : RdD ok w x] : RdD ok w x.fSpent := ⟨h.h.2.2.2.2.2⟩
structure SimFrame where
  fFn : Int
  fBlock : Int
  fAt : Int
  fVals : Mr
  fDst : Int
instance : Enc SimFrame where
  enc := fun x => [.int .i64 x.fFn, .int .i64 x.fBlock, .int .i64 x.fAt, .map x.fVals.b, .int .i64 x.fDst]
  sz := 5
  dflt := ⟨Enc.dflt, Enc.dflt, Enc.dflt, Enc.dflt, Enc.dflt⟩
  len := fun _ => rfl
  one := by
    intro x u h
    simp only [List.mem_cons, List.not_mem_nil, or_false] at h
    rcases h with rfl | rfl | rfl | rfl | rfl <;> rfl
  pos := by decide
instance : Dp SimFrame where
  rd := fun ok w x => Dp.rd ok w x.fFn ∧ Dp.rd ok w x.fBlock ∧ Dp.rd ok w x.fAt ∧ Dp.rd ok w x.fVals ∧ Dp.rd ok w x.fDst
  loc := fun h hk => ⟨Dp.loc h.1 hk, Dp.loc h.2.1 hk, Dp.loc h.2.2.1 hk, Dp.loc h.2.2.2.1 hk, Dp.loc h.2.2.2.2 hk⟩
  dflt := fun ok w => ⟨Dp.dflt ok w, Dp.dflt ok w, Dp.dflt ok w, Dp.dflt ok w, Dp.dflt ok w⟩
instance {ok : FP} {w : World} {x : SimFrame} [h : RdD ok w x] : RdD ok w x.fFn := ⟨h.h.1⟩
instance {ok : FP} {w : World} {x : SimFrame} [h : RdD ok w x] : RdD ok w x.fBlock := ⟨h.h.2.1⟩
instance {ok : FP} {w : World} {x : SimFrame} [h : RdD ok w x] : RdD ok w x.fAt := ⟨h.h.2.2.1⟩
instance {ok : FP} {w : World} {x : SimFrame} [h : RdD ok w x] : RdD ok w x.fVals := ⟨h.h.2.2.2.1⟩
instance {ok : FP} {w : World} {x : SimFrame} [h : RdD ok w x] : RdD ok w x.fDst := ⟨h.h.2.2.2.2⟩
structure SimMachine where
  fP : SsaProg
  fFs : Sl SimFrame
  fOut : SimResult
  fEnd : Bool
instance : Enc SimMachine where
  enc := fun x => [.slice x.fP.fArrays.A x.fP.fArrays.xs.length x.fP.fArrays.c, .slice x.fP.fFuncs.A x.fP.fFuncs.xs.length x.fP.fFuncs.c, .int .i64 x.fP.fMain, .slice x.fFs.A x.fFs.xs.length x.fFs.c, .int .i64 x.fOut.fVal, .int .i64 x.fOut.fTrap, .slice x.fOut.fLeaks.A x.fOut.fLeaks.xs.length x.fOut.fLeaks.c, .int .i64 x.fOut.fSteps, .int .i64 x.fOut.fDeep, .slice x.fOut.fMem.A x.fOut.fMem.xs.length x.fOut.fMem.c, .bool x.fEnd]
  sz := 11
  dflt := ⟨Enc.dflt, Enc.dflt, Enc.dflt, Enc.dflt⟩
  len := fun _ => rfl
  one := by
    intro x u h
    simp only [List.mem_cons, List.not_mem_nil, or_false] at h
    rcases h with rfl | rfl | rfl | rfl | rfl | rfl | rfl | rfl | rfl | rfl | rfl <;> rfl
  pos := by decide
instance : Dp SimMachine where
  rd := fun ok w x => Dp.rd ok w x.fP ∧ Dp.rd ok w x.fFs ∧ Dp.rd ok w x.fOut ∧ Dp.rd ok w x.fEnd
  loc := fun h hk => ⟨Dp.loc h.1 hk, Dp.loc h.2.1 hk, Dp.loc h.2.2.1 hk, Dp.loc h.2.2.2 hk⟩
  dflt := fun ok w => ⟨Dp.dflt ok w, Dp.dflt ok w, Dp.dflt ok w, Dp.dflt ok w⟩
instance {ok : FP} {w : World} {x : SimMachine} [h : RdD ok w x] : RdD ok w x.fP := ⟨h.h.1⟩
instance {ok : FP} {w : World} {x : SimMachine} [h : RdD ok w x] : RdD ok w x.fFs := ⟨h.h.2.1⟩
instance {ok : FP} {w : World} {x : SimMachine} [h : RdD ok w x] : RdD ok w x.fOut := ⟨h.h.2.2.1⟩
instance {ok : FP} {w : World} {x : SimMachine} [h : RdD ok w x] : RdD ok w x.fEnd := ⟨h.h.2.2.2⟩
instance : C1 Try.prog 2 := ⟨T1_2⟩
instance : Elt Try.prog 2 (Int) (by infer_instance) 1 8 := ⟨⟨_, TI_2, rfl⟩, rfl⟩
instance : Ekc Try.prog 2 Int (ekInt U_2) := ⟨TI_2.zero, fun _ => rfl⟩
instance : C1 Try.prog 3 := ⟨T1_3⟩
instance : Elt Try.prog 3 (Int) (by infer_instance) 1 8 := ⟨⟨_, TI_3, rfl⟩, rfl⟩
instance : Ekc Try.prog 3 Int (ekInt U_3) := ⟨TI_3.zero, fun _ => rfl⟩
instance : C1 Try.prog 4 := ⟨T1_4⟩
instance : Elt Try.prog 4 (Bool) (by infer_instance) 1 1 := ⟨⟨_, TI_4, rfl⟩, rfl⟩
instance : Ekc Try.prog 4 Bool (ekBool U_4) := ⟨TI_4.zero, fun _ => rfl⟩
instance : BoT Try.prog 4 := ⟨U_4⟩
instance : C1 Try.prog 5 := ⟨T1_5⟩
instance : Elt Try.prog 5 (Iof .u8) (by infer_instance) 1 1 := ⟨⟨_, TI_5, rfl⟩, rfl⟩
instance : C1 Try.prog 9 := ⟨T1_9⟩
instance : Elt Try.prog 9 (Str) (by infer_instance) 1 16 := ⟨⟨_, TI_9, rfl⟩, rfl⟩
instance : C1 Try.prog 12 := ⟨T1_12⟩
instance : Elt Try.prog 12 (Iof .u64) (by infer_instance) 1 8 := ⟨⟨_, TI_12, rfl⟩, rfl⟩
instance : CA Try.prog 13 2 := ⟨TA_13⟩
instance : C1 Try.prog 21 := ⟨T1_21⟩
instance : Elt Try.prog 21 (Iof .i32) (by infer_instance) 1 4 := ⟨⟨_, TI_21, rfl⟩, rfl⟩
instance : C1 Try.prog 22 := ⟨T1_22⟩
instance : Elt Try.prog 22 (Sl SsaArray) (by infer_instance) 1 24 := ⟨⟨_, TI_22, rfl⟩, rfl⟩
instance : SlT Try.prog 22 74 := ⟨U_22⟩
instance : C1 Try.prog 23 := ⟨T1_23⟩
instance : Elt Try.prog 23 (Sl SsaFunc) (by infer_instance) 1 24 := ⟨⟨_, TI_23, rfl⟩, rfl⟩
instance : SlT Try.prog 23 63 := ⟨U_23⟩
instance : CA Try.prog 24 3 := ⟨TA_24⟩
instance : CA Try.prog 25 3 := ⟨TA_25⟩
instance : Elt Try.prog 25 (SsaProg) (by infer_instance) 3 56 := ⟨⟨_, TI_25, rfl⟩, rfl⟩
instance : FldT Try.prog 25 0 0 := ⟨_, fd_25_0, 0, U_25, rfl, rfl, T1_22.sz⟩
instance : FldT Try.prog 25 1 1 := ⟨_, fd_25_1, 0, U_25, rfl, rfl, T1_23.sz⟩
instance : FldT Try.prog 25 2 2 := ⟨_, fd_25_2, 0, U_25, rfl, rfl, T1_3.sz⟩
instance : C1 Try.prog 26 := ⟨T1_26⟩
instance : Elt Try.prog 26 (Sl (Sl Int)) (by infer_instance) 1 24 := ⟨⟨_, TI_26, rfl⟩, rfl⟩
instance : SlT Try.prog 26 45 := ⟨U_26⟩
instance : C1 Try.prog 30 := ⟨T1_30⟩
instance : Elt Try.prog 30 (Int) (by infer_instance) 1 8 := ⟨⟨_, TI_30, rfl⟩, rfl⟩
instance : Ekc Try.prog 30 Int (ekInt U_30) := ⟨TI_30.zero, fun _ => rfl⟩
instance : C1 Try.prog 31 := ⟨T1_31⟩
instance : Elt Try.prog 31 (Sl ApiLeak) (by infer_instance) 1 24 := ⟨⟨_, TI_31, rfl⟩, rfl⟩
instance : SlT Try.prog 31 86 := ⟨U_31⟩
instance : CA Try.prog 32 6 := ⟨TA_32⟩
instance : CA Try.prog 33 6 := ⟨TA_33⟩
instance : Elt Try.prog 33 (SimResult) (by infer_instance) 6 80 := ⟨⟨_, TI_33, rfl⟩, rfl⟩
instance : FldT Try.prog 33 0 0 := ⟨_, fd_33_0, 0, U_33, rfl, rfl, T1_2.sz⟩
instance : FldT Try.prog 33 1 1 := ⟨_, fd_33_1, 0, U_33, rfl, rfl, T1_30.sz⟩
instance : FldT Try.prog 33 2 2 := ⟨_, fd_33_2, 0, U_33, rfl, rfl, T1_31.sz⟩
instance : FldT Try.prog 33 3 3 := ⟨_, fd_33_3, 0, U_33, rfl, rfl, T1_3.sz⟩
instance : FldT Try.prog 33 4 4 := ⟨_, fd_33_4, 0, U_33, rfl, rfl, T1_3.sz⟩
instance : FldT Try.prog 33 5 5 := ⟨_, fd_33_5, 0, U_33, rfl, rfl, T1_26.sz⟩
instance : C1 Try.prog 34 := ⟨T1_34⟩
instance : Elt Try.prog 34 (Int) (by infer_instance) 1 8 := ⟨⟨_, TI_34, rfl⟩, rfl⟩
instance : Ekc Try.prog 34 Int (ekInt U_34) := ⟨TI_34.zero, fun _ => rfl⟩
instance : C1 Try.prog 38 := ⟨T1_38⟩
instance : Elt Try.prog 38 (Pr) (by infer_instance) 1 8 := ⟨⟨_, TI_38, rfl⟩, rfl⟩
instance : PtT Try.prog 38 := ⟨_, U_38⟩
instance : CA Try.prog 40 8 := ⟨TA_40⟩
instance : CA Try.prog 41 8 := ⟨TA_41⟩
instance : Elt Try.prog 41 (Palingslaw08Own) (by infer_instance) 8 128 := ⟨⟨_, TI_41, rfl⟩, rfl⟩
instance : FldT Try.prog 41 0 0 := ⟨_, fd_41_0, 2, U_41, rfl, rfl, TA_25.sz⟩
instance : FldT Try.prog 41 1 3 := ⟨_, fd_41_1, 0, U_41, rfl, rfl, T1_26.sz⟩
instance : FldT Try.prog 41 2 4 := ⟨_, fd_41_2, 0, U_41, rfl, rfl, T1_31.sz⟩
instance : FldT Try.prog 41 3 5 := ⟨_, fd_41_3, 0, U_41, rfl, rfl, T1_3.sz⟩
instance : FldT Try.prog 41 4 6 := ⟨_, fd_41_4, 0, U_41, rfl, rfl, T1_30.sz⟩
instance : FldT Try.prog 41 5 7 := ⟨_, fd_41_5, 0, U_41, rfl, rfl, T1_4.sz⟩
instance : C1 Try.prog 45 := ⟨T1_45⟩
instance : Elt Try.prog 45 (Sl Int) (by infer_instance) 1 24 := ⟨⟨_, TI_45, rfl⟩, rfl⟩
instance : SlT Try.prog 45 2 := ⟨U_45⟩
instance : C1 Try.prog 47 := ⟨T1_47⟩
instance : Elt Try.prog 47 (Int) (by infer_instance) 1 8 := ⟨⟨_, TI_47, rfl⟩, rfl⟩
instance : Ekc Try.prog 47 Int (ekInt U_47) := ⟨TI_47.zero, fun _ => rfl⟩
instance : C1 Try.prog 48 := ⟨T1_48⟩
instance : Elt Try.prog 48 (Sl Int) (by infer_instance) 1 24 := ⟨⟨_, TI_48, rfl⟩, rfl⟩
instance : SlT Try.prog 48 3 := ⟨U_48⟩
instance : C1 Try.prog 49 := ⟨T1_49⟩
instance : Elt Try.prog 49 (Int) (by infer_instance) 1 8 := ⟨⟨_, TI_49, rfl⟩, rfl⟩
instance : Ekc Try.prog 49 Int (ekInt U_49) := ⟨TI_49.zero, fun _ => rfl⟩
instance : CA Try.prog 50 7 := ⟨TA_50⟩
instance : CA Try.prog 51 7 := ⟨TA_51⟩
instance : Elt Try.prog 51 (SsaIns) (by infer_instance) 7 72 := ⟨⟨_, TI_51, rfl⟩, rfl⟩
instance : FldT Try.prog 51 0 0 := ⟨_, fd_51_0, 0, U_51, rfl, rfl, T1_47.sz⟩
instance : FldT Try.prog 51 1 1 := ⟨_, fd_51_1, 0, U_51, rfl, rfl, T1_3.sz⟩
instance : FldT Try.prog 51 2 2 := ⟨_, fd_51_2, 0, U_51, rfl, rfl, T1_48.sz⟩
instance : FldT Try.prog 51 3 3 := ⟨_, fd_51_3, 0, U_51, rfl, rfl, T1_2.sz⟩
instance : FldT Try.prog 51 4 4 := ⟨_, fd_51_4, 0, U_51, rfl, rfl, T1_49.sz⟩
instance : FldT Try.prog 51 5 5 := ⟨_, fd_51_5, 0, U_51, rfl, rfl, T1_3.sz⟩
instance : FldT Try.prog 51 6 6 := ⟨_, fd_51_6, 0, U_51, rfl, rfl, T1_3.sz⟩
instance : C1 Try.prog 52 := ⟨T1_52⟩
instance : Elt Try.prog 52 (Sl SsaIns) (by infer_instance) 1 24 := ⟨⟨_, TI_52, rfl⟩, rfl⟩
instance : SlT Try.prog 52 51 := ⟨U_52⟩
instance : C1 Try.prog 53 := ⟨T1_53⟩
instance : Elt Try.prog 53 (Int) (by infer_instance) 1 8 := ⟨⟨_, TI_53, rfl⟩, rfl⟩
instance : Ekc Try.prog 53 Int (ekInt U_53) := ⟨TI_53.zero, fun _ => rfl⟩
instance : CA Try.prog 54 2 := ⟨TA_54⟩
instance : CA Try.prog 55 2 := ⟨TA_55⟩
instance : Elt Try.prog 55 (SsaEdge) (by infer_instance) 2 32 := ⟨⟨_, TI_55, rfl⟩, rfl⟩
instance : FldT Try.prog 55 0 0 := ⟨_, fd_55_0, 0, U_55, rfl, rfl, T1_3.sz⟩
instance : FldT Try.prog 55 1 1 := ⟨_, fd_55_1, 0, U_55, rfl, rfl, T1_48.sz⟩
instance : C1 Try.prog 56 := ⟨T1_56⟩
instance : Elt Try.prog 56 (Sl SsaEdge) (by infer_instance) 1 24 := ⟨⟨_, TI_56, rfl⟩, rfl⟩
instance : SlT Try.prog 56 55 := ⟨U_56⟩
instance : CA Try.prog 57 4 := ⟨TA_57⟩
instance : CA Try.prog 58 4 := ⟨TA_58⟩
instance : Elt Try.prog 58 (SsaEnd) (by infer_instance) 4 48 := ⟨⟨_, TI_58, rfl⟩, rfl⟩
instance : FldT Try.prog 58 0 0 := ⟨_, fd_58_0, 0, U_58, rfl, rfl, T1_53.sz⟩
instance : FldT Try.prog 58 1 1 := ⟨_, fd_58_1, 0, U_58, rfl, rfl, T1_3.sz⟩
instance : FldT Try.prog 58 2 2 := ⟨_, fd_58_2, 0, U_58, rfl, rfl, T1_56.sz⟩
instance : FldT Try.prog 58 3 3 := ⟨_, fd_58_3, 0, U_58, rfl, rfl, T1_30.sz⟩
instance : CA Try.prog 59 6 := ⟨TA_59⟩
instance : CA Try.prog 60 6 := ⟨TA_60⟩
instance : Elt Try.prog 60 (SsaBlock) (by infer_instance) 6 96 := ⟨⟨_, TI_60, rfl⟩, rfl⟩
instance : FldT Try.prog 60 0 0 := ⟨_, fd_60_0, 0, U_60, rfl, rfl, T1_48.sz⟩
instance : FldT Try.prog 60 1 1 := ⟨_, fd_60_1, 0, U_60, rfl, rfl, T1_52.sz⟩
instance : FldT Try.prog 60 2 2 := ⟨_, fd_60_2, 3, U_60, rfl, rfl, TA_58.sz⟩
instance : C1 Try.prog 61 := ⟨T1_61⟩
instance : Elt Try.prog 61 (Sl SsaBlock) (by infer_instance) 1 24 := ⟨⟨_, TI_61, rfl⟩, rfl⟩
instance : SlT Try.prog 61 60 := ⟨U_61⟩
instance : CA Try.prog 62 2 := ⟨TA_62⟩
instance : CA Try.prog 63 2 := ⟨TA_63⟩
instance : Elt Try.prog 63 (SsaFunc) (by infer_instance) 2 40 := ⟨⟨_, TI_63, rfl⟩, rfl⟩
instance : FldT Try.prog 63 0 0 := ⟨_, fd_63_0, 0, U_63, rfl, rfl, T1_9.sz⟩
instance : FldT Try.prog 63 1 1 := ⟨_, fd_63_1, 0, U_63, rfl, rfl, T1_61.sz⟩
instance : C1 Try.prog 67 := ⟨T1_67⟩
instance : Elt Try.prog 67 (Pr) (by infer_instance) 1 8 := ⟨⟨_, TI_67, rfl⟩, rfl⟩
instance : PtT Try.prog 67 := ⟨_, U_67⟩
instance : C1 Try.prog 68 := ⟨T1_68⟩
instance : Elt Try.prog 68 (Sl SimFrame) (by infer_instance) 1 24 := ⟨⟨_, TI_68, rfl⟩, rfl⟩
instance : SlT Try.prog 68 90 := ⟨U_68⟩
instance : CA Try.prog 69 11 := ⟨TA_69⟩
instance : CA Try.prog 70 11 := ⟨TA_70⟩
instance : Elt Try.prog 70 (SimMachine) (by infer_instance) 11 168 := ⟨⟨_, TI_70, rfl⟩, rfl⟩
instance : FldT Try.prog 70 0 0 := ⟨_, fd_70_0, 2, U_70, rfl, rfl, TA_25.sz⟩
instance : FldT Try.prog 70 1 3 := ⟨_, fd_70_1, 0, U_70, rfl, rfl, T1_68.sz⟩
instance : FldT Try.prog 70 2 4 := ⟨_, fd_70_2, 5, U_70, rfl, rfl, TA_33.sz⟩
instance : FldT Try.prog 70 3 10 := ⟨_, fd_70_3, 0, U_70, rfl, rfl, T1_4.sz⟩
instance : C1 Try.prog 72 := ⟨T1_72⟩
instance : Elt Try.prog 72 (Int) (by infer_instance) 1 8 := ⟨⟨_, TI_72, rfl⟩, rfl⟩
instance : Ekc Try.prog 72 Int (ekInt U_72) := ⟨TI_72.zero, fun _ => rfl⟩
instance : CA Try.prog 73 3 := ⟨TA_73⟩
instance : CA Try.prog 74 3 := ⟨TA_74⟩
instance : Elt Try.prog 74 (SsaArray) (by infer_instance) 3 32 := ⟨⟨_, TI_74, rfl⟩, rfl⟩
instance : FldT Try.prog 74 0 0 := ⟨_, fd_74_0, 0, U_74, rfl, rfl, T1_9.sz⟩
instance : FldT Try.prog 74 1 1 := ⟨_, fd_74_1, 0, U_74, rfl, rfl, T1_72.sz⟩
instance : FldT Try.prog 74 2 2 := ⟨_, fd_74_2, 0, U_74, rfl, rfl, T1_3.sz⟩
instance : C1 Try.prog 79 := ⟨T1_79⟩
instance : Elt Try.prog 79 (Sl Mr) (by infer_instance) 1 24 := ⟨⟨_, TI_79, rfl⟩, rfl⟩
instance : SlT Try.prog 79 81 := ⟨U_79⟩
instance : C1 Try.prog 81 := ⟨T1_81⟩
instance : Elt Try.prog 81 (Mr) (by infer_instance) 1 8 := ⟨⟨_, TI_81, rfl⟩, rfl⟩
instance : MpT Try.prog 81 3 4 := ⟨U_81, U_3⟩
instance : C1 Try.prog 83 := ⟨T1_83⟩
instance : Elt Try.prog 83 (Mr) (by infer_instance) 1 8 := ⟨⟨_, TI_83, rfl⟩, rfl⟩
instance : MpT Try.prog 83 3 2 := ⟨U_83, U_3⟩
instance : C1 Try.prog 84 := ⟨T1_84⟩
instance : Elt Try.prog 84 (Int) (by infer_instance) 1 8 := ⟨⟨_, TI_84, rfl⟩, rfl⟩
instance : Ekc Try.prog 84 Int (ekInt U_84) := ⟨TI_84.zero, fun _ => rfl⟩
instance : CA Try.prog 85 3 := ⟨TA_85⟩
instance : CA Try.prog 86 3 := ⟨TA_86⟩
instance : Elt Try.prog 86 (ApiLeak) (by infer_instance) 3 24 := ⟨⟨_, TI_86, rfl⟩, rfl⟩
instance : FldT Try.prog 86 0 0 := ⟨_, fd_86_0, 0, U_86, rfl, rfl, T1_84.sz⟩
instance : FldT Try.prog 86 1 1 := ⟨_, fd_86_1, 0, U_86, rfl, rfl, T1_2.sz⟩
instance : FldT Try.prog 86 2 2 := ⟨_, fd_86_2, 0, U_86, rfl, rfl, T1_2.sz⟩
instance : CA Try.prog 89 5 := ⟨TA_89⟩
instance : CA Try.prog 90 5 := ⟨TA_90⟩
instance : Elt Try.prog 90 (SimFrame) (by infer_instance) 5 40 := ⟨⟨_, TI_90, rfl⟩, rfl⟩
instance : FldT Try.prog 90 0 0 := ⟨_, fd_90_0, 0, U_90, rfl, rfl, T1_3.sz⟩
instance : FldT Try.prog 90 1 1 := ⟨_, fd_90_1, 0, U_90, rfl, rfl, T1_3.sz⟩
instance : FldT Try.prog 90 2 2 := ⟨_, fd_90_2, 0, U_90, rfl, rfl, T1_3.sz⟩
instance : FldT Try.prog 90 3 3 := ⟨_, fd_90_3, 0, U_90, rfl, rfl, T1_83.sz⟩
instance : FldT Try.prog 90 4 4 := ⟨_, fd_90_4, 0, U_90, rfl, rfl, T1_3.sz⟩
instance : C1 Try.prog 91 := ⟨T1_91⟩
instance : Elt Try.prog 91 (Pr) (by infer_instance) 1 8 := ⟨⟨_, TI_91, rfl⟩, rfl⟩
instance : PtT Try.prog 91 := ⟨_, U_91⟩
instance : C1 Try.prog 95 := ⟨T1_95⟩
instance : Elt Try.prog 95 (Mr) (by infer_instance) 1 8 := ⟨⟨_, TI_95, rfl⟩, rfl⟩
instance : MpT Try.prog 95 53 3 := ⟨U_95, U_53⟩
instance : C1 Try.prog 99 := ⟨T1_99⟩
instance : Elt Try.prog 99 (Sl Bool) (by infer_instance) 1 24 := ⟨⟨_, TI_99, rfl⟩, rfl⟩
instance : SlT Try.prog 99 4 := ⟨U_99⟩
instance : C1 Try.prog 105 := ⟨T1_105⟩
instance : Elt Try.prog 105 (Iof .u64) (by infer_instance) 1 8 := ⟨⟨_, TI_105, rfl⟩, rfl⟩
instance : C1 Try.prog 110 := ⟨T1_110⟩
instance : Elt Try.prog 110 (Pr) (by infer_instance) 1 8 := ⟨⟨_, TI_110, rfl⟩, rfl⟩
instance : PtT Try.prog 110 := ⟨_, U_110⟩
instance : C1 Try.prog 120 := ⟨T1_120⟩
instance : Elt Try.prog 120 (Iof .u32) (by infer_instance) 1 4 := ⟨⟨_, TI_120, rfl⟩, rfl⟩
instance : C1 Try.prog 124 := ⟨T1_124⟩
instance : Elt Try.prog 124 (Pr) (by infer_instance) 1 8 := ⟨⟨_, TI_124, rfl⟩, rfl⟩
instance : PtT Try.prog 124 := ⟨_, U_124⟩
instance : Opn Try.prog 2 (Int) (by infer_instance) (by infer_instance) := opn_int U_2
instance : Opn Try.prog 3 (Int) (by infer_instance) (by infer_instance) := opn_int U_3
instance : Opn Try.prog 4 (Bool) (by infer_instance) (by infer_instance) := opn_bool U_4
instance : Opn Try.prog 5 (Iof .u8) (by infer_instance) (by infer_instance) := opn_iof U_5
instance : Opn Try.prog 9 (Str) (by infer_instance) (by infer_instance) := opn_str U_9
instance : Opn Try.prog 12 (Iof .u64) (by infer_instance) (by infer_instance) := opn_iof U_12
instance : Opn Try.prog 21 (Iof .i32) (by infer_instance) (by infer_instance) := opn_iof U_21
instance : Opn Try.prog 72 (Int) (by infer_instance) (by infer_instance) := opn_int U_72
instance : Opn Try.prog 74 SsaArray (by infer_instance) (by infer_instance) := ⟨fun {H enc W fuel cs x} h => by
  obtain ⟨ys, n', _, _, hlen, hyl, hfd⟩ := DataW.trod_struct U_74 h
  have hlen : cs.length = 3 := hlen.trans (by kernel_rfl)
  have hyl : ys.length = 3 := hyl
  have h0 : DataW.trod enc Try.prog W 0 (fun _ => true) true n' 9 ((cs.drop 0).take (Try.prog.cellsOf 9)) = some (ys[0]'(by rw [hyl]; decide)) := (hfd 0 fd_74_0 rfl).trans (List.getElem?_eq_getElem _)
  obtain ⟨u0, e0, r0⟩ := (inferInstance : Opn Try.prog 9 (Str) _ _).opn h0
  rw [show Try.prog.cellsOf 9 = 1 by kernel_rfl] at e0
  have h1 : DataW.trod enc Try.prog W 0 (fun _ => true) true n' 72 ((cs.drop 1).take (Try.prog.cellsOf 72)) = some (ys[1]'(by rw [hyl]; decide)) := (hfd 1 fd_74_1 rfl).trans (List.getElem?_eq_getElem _)
  obtain ⟨u1, e1, r1⟩ := (inferInstance : Opn Try.prog 72 (Int) _ _).opn h1
  rw [show Try.prog.cellsOf 72 = 1 by kernel_rfl] at e1
  have h2 : DataW.trod enc Try.prog W 0 (fun _ => true) true n' 3 ((cs.drop 2).take (Try.prog.cellsOf 3)) = some (ys[2]'(by rw [hyl]; decide)) := (hfd 2 fd_74_2 rfl).trans (List.getElem?_eq_getElem _)
  obtain ⟨u2, e2, r2⟩ := (inferInstance : Opn Try.prog 3 (Int) _ _).opn h2
  rw [show Try.prog.cellsOf 3 = 1 by kernel_rfl] at e2
  refine ⟨⟨u0, u1, u2⟩, ?_, r0, r1, r2⟩
  have hcs : cs = (cs.drop 0).take 1 ++ ((cs.drop 1).take 1 ++ ((cs.drop 2).take 1 ++ (cs.drop 3))) := by
    conv => lhs; rw [← List.drop_zero (l := cs)]
    conv => lhs; rw [cut_drop cs 0 1]
    conv => lhs; arg 2; rw [cut_drop cs 1 1]
    conv => lhs; arg 2; arg 2; rw [cut_drop cs 2 1]
  rw [show cs.drop 3 = [] from List.drop_eq_nil_of_le (by omega)] at hcs
  refine hcs.trans ?_
  rw [e0, e1, e2]; rfl⟩
instance : Opn Try.prog 22 (Sl SsaArray) (by infer_instance) (by infer_instance) := opn_slice U_22 inferInstance (by kernel_rfl)
instance : Opn Try.prog 48 (Sl Int) (by infer_instance) (by infer_instance) := opn_slice U_48 inferInstance (by kernel_rfl)
instance : Opn Try.prog 47 (Int) (by infer_instance) (by infer_instance) := opn_int U_47
instance : Opn Try.prog 49 (Int) (by infer_instance) (by infer_instance) := opn_int U_49
instance : Opn Try.prog 51 SsaIns (by infer_instance) (by infer_instance) := ⟨fun {H enc W fuel cs x} h => by
  obtain ⟨ys, n', _, _, hlen, hyl, hfd⟩ := DataW.trod_struct U_51 h
  have hlen : cs.length = 7 := hlen.trans (by kernel_rfl)
  have hyl : ys.length = 7 := hyl
  have h0 : DataW.trod enc Try.prog W 0 (fun _ => true) true n' 47 ((cs.drop 0).take (Try.prog.cellsOf 47)) = some (ys[0]'(by rw [hyl]; decide)) := (hfd 0 fd_51_0 rfl).trans (List.getElem?_eq_getElem _)
  obtain ⟨u0, e0, r0⟩ := (inferInstance : Opn Try.prog 47 (Int) _ _).opn h0
  rw [show Try.prog.cellsOf 47 = 1 by kernel_rfl] at e0
  have h1 : DataW.trod enc Try.prog W 0 (fun _ => true) true n' 3 ((cs.drop 1).take (Try.prog.cellsOf 3)) = some (ys[1]'(by rw [hyl]; decide)) := (hfd 1 fd_51_1 rfl).trans (List.getElem?_eq_getElem _)
  obtain ⟨u1, e1, r1⟩ := (inferInstance : Opn Try.prog 3 (Int) _ _).opn h1
  rw [show Try.prog.cellsOf 3 = 1 by kernel_rfl] at e1
  have h2 : DataW.trod enc Try.prog W 0 (fun _ => true) true n' 48 ((cs.drop 2).take (Try.prog.cellsOf 48)) = some (ys[2]'(by rw [hyl]; decide)) := (hfd 2 fd_51_2 rfl).trans (List.getElem?_eq_getElem _)
  obtain ⟨u2, e2, r2⟩ := (inferInstance : Opn Try.prog 48 (Sl Int) _ _).opn h2
  rw [show Try.prog.cellsOf 48 = 1 by kernel_rfl] at e2
  have h3 : DataW.trod enc Try.prog W 0 (fun _ => true) true n' 2 ((cs.drop 3).take (Try.prog.cellsOf 2)) = some (ys[3]'(by rw [hyl]; decide)) := (hfd 3 fd_51_3 rfl).trans (List.getElem?_eq_getElem _)
  obtain ⟨u3, e3, r3⟩ := (inferInstance : Opn Try.prog 2 (Int) _ _).opn h3
  rw [show Try.prog.cellsOf 2 = 1 by kernel_rfl] at e3
  have h4 : DataW.trod enc Try.prog W 0 (fun _ => true) true n' 49 ((cs.drop 4).take (Try.prog.cellsOf 49)) = some (ys[4]'(by rw [hyl]; decide)) := (hfd 4 fd_51_4 rfl).trans (List.getElem?_eq_getElem _)
  obtain ⟨u4, e4, r4⟩ := (inferInstance : Opn Try.prog 49 (Int) _ _).opn h4
  rw [show Try.prog.cellsOf 49 = 1 by kernel_rfl] at e4
  have h5 : DataW.trod enc Try.prog W 0 (fun _ => true) true n' 3 ((cs.drop 5).take (Try.prog.cellsOf 3)) = some (ys[5]'(by rw [hyl]; decide)) := (hfd 5 fd_51_5 rfl).trans (List.getElem?_eq_getElem _)
  obtain ⟨u5, e5, r5⟩ := (inferInstance : Opn Try.prog 3 (Int) _ _).opn h5
  rw [show Try.prog.cellsOf 3 = 1 by kernel_rfl] at e5
  have h6 : DataW.trod enc Try.prog W 0 (fun _ => true) true n' 3 ((cs.drop 6).take (Try.prog.cellsOf 3)) = some (ys[6]'(by rw [hyl]; decide)) := (hfd 6 fd_51_6 rfl).trans (List.getElem?_eq_getElem _)
  obtain ⟨u6, e6, r6⟩ := (inferInstance : Opn Try.prog 3 (Int) _ _).opn h6
  rw [show Try.prog.cellsOf 3 = 1 by kernel_rfl] at e6
  refine ⟨⟨u0, u1, u2, u3, u4, u5, u6⟩, ?_, r0, r1, r2, r3, r4, r5, r6⟩
  have hcs : cs = (cs.drop 0).take 1 ++ ((cs.drop 1).take 1 ++ ((cs.drop 2).take 1 ++ ((cs.drop 3).take 1 ++ ((cs.drop 4).take 1 ++ ((cs.drop 5).take 1 ++ ((cs.drop 6).take 1 ++ (cs.drop 7))))))) := by
    conv => lhs; rw [← List.drop_zero (l := cs)]
    conv => lhs; rw [cut_drop cs 0 1]
    conv => lhs; arg 2; rw [cut_drop cs 1 1]
    conv => lhs; arg 2; arg 2; rw [cut_drop cs 2 1]
    conv => lhs; arg 2; arg 2; arg 2; rw [cut_drop cs 3 1]
    conv => lhs; arg 2; arg 2; arg 2; arg 2; rw [cut_drop cs 4 1]
    conv => lhs; arg 2; arg 2; arg 2; arg 2; arg 2; rw [cut_drop cs 5 1]
    conv => lhs; arg 2; arg 2; arg 2; arg 2; arg 2; arg 2; rw [cut_drop cs 6 1]
  rw [show cs.drop 7 = [] from List.drop_eq_nil_of_le (by omega)] at hcs
  refine hcs.trans ?_
  rw [e0, e1, e2, e3, e4, e5, e6]; rfl⟩
instance : Opn Try.prog 52 (Sl SsaIns) (by infer_instance) (by infer_instance) := opn_slice U_52 inferInstance (by kernel_rfl)
instance : Opn Try.prog 53 (Int) (by infer_instance) (by infer_instance) := opn_int U_53
instance : Opn Try.prog 55 SsaEdge (by infer_instance) (by infer_instance) := ⟨fun {H enc W fuel cs x} h => by
  obtain ⟨ys, n', _, _, hlen, hyl, hfd⟩ := DataW.trod_struct U_55 h
  have hlen : cs.length = 2 := hlen.trans (by kernel_rfl)
  have hyl : ys.length = 2 := hyl
  have h0 : DataW.trod enc Try.prog W 0 (fun _ => true) true n' 3 ((cs.drop 0).take (Try.prog.cellsOf 3)) = some (ys[0]'(by rw [hyl]; decide)) := (hfd 0 fd_55_0 rfl).trans (List.getElem?_eq_getElem _)
  obtain ⟨u0, e0, r0⟩ := (inferInstance : Opn Try.prog 3 (Int) _ _).opn h0
  rw [show Try.prog.cellsOf 3 = 1 by kernel_rfl] at e0
  have h1 : DataW.trod enc Try.prog W 0 (fun _ => true) true n' 48 ((cs.drop 1).take (Try.prog.cellsOf 48)) = some (ys[1]'(by rw [hyl]; decide)) := (hfd 1 fd_55_1 rfl).trans (List.getElem?_eq_getElem _)
  obtain ⟨u1, e1, r1⟩ := (inferInstance : Opn Try.prog 48 (Sl Int) _ _).opn h1
  rw [show Try.prog.cellsOf 48 = 1 by kernel_rfl] at e1
  refine ⟨⟨u0, u1⟩, ?_, r0, r1⟩
  have hcs : cs = (cs.drop 0).take 1 ++ ((cs.drop 1).take 1 ++ (cs.drop 2)) := by
    conv => lhs; rw [← List.drop_zero (l := cs)]
    conv => lhs; rw [cut_drop cs 0 1]
    conv => lhs; arg 2; rw [cut_drop cs 1 1]
  rw [show cs.drop 2 = [] from List.drop_eq_nil_of_le (by omega)] at hcs
  refine hcs.trans ?_
  rw [e0, e1]; rfl⟩
instance : Opn Try.prog 56 (Sl SsaEdge) (by infer_instance) (by infer_instance) := opn_slice U_56 inferInstance (by kernel_rfl)
instance : Opn Try.prog 30 (Int) (by infer_instance) (by infer_instance) := opn_int U_30
instance : Opn Try.prog 58 SsaEnd (by infer_instance) (by infer_instance) := ⟨fun {H enc W fuel cs x} h => by
  obtain ⟨ys, n', _, _, hlen, hyl, hfd⟩ := DataW.trod_struct U_58 h
  have hlen : cs.length = 4 := hlen.trans (by kernel_rfl)
  have hyl : ys.length = 4 := hyl
  have h0 : DataW.trod enc Try.prog W 0 (fun _ => true) true n' 53 ((cs.drop 0).take (Try.prog.cellsOf 53)) = some (ys[0]'(by rw [hyl]; decide)) := (hfd 0 fd_58_0 rfl).trans (List.getElem?_eq_getElem _)
  obtain ⟨u0, e0, r0⟩ := (inferInstance : Opn Try.prog 53 (Int) _ _).opn h0
  rw [show Try.prog.cellsOf 53 = 1 by kernel_rfl] at e0
  have h1 : DataW.trod enc Try.prog W 0 (fun _ => true) true n' 3 ((cs.drop 1).take (Try.prog.cellsOf 3)) = some (ys[1]'(by rw [hyl]; decide)) := (hfd 1 fd_58_1 rfl).trans (List.getElem?_eq_getElem _)
  obtain ⟨u1, e1, r1⟩ := (inferInstance : Opn Try.prog 3 (Int) _ _).opn h1
  rw [show Try.prog.cellsOf 3 = 1 by kernel_rfl] at e1
  have h2 : DataW.trod enc Try.prog W 0 (fun _ => true) true n' 56 ((cs.drop 2).take (Try.prog.cellsOf 56)) = some (ys[2]'(by rw [hyl]; decide)) := (hfd 2 fd_58_2 rfl).trans (List.getElem?_eq_getElem _)
  obtain ⟨u2, e2, r2⟩ := (inferInstance : Opn Try.prog 56 (Sl SsaEdge) _ _).opn h2
  rw [show Try.prog.cellsOf 56 = 1 by kernel_rfl] at e2
  have h3 : DataW.trod enc Try.prog W 0 (fun _ => true) true n' 30 ((cs.drop 3).take (Try.prog.cellsOf 30)) = some (ys[3]'(by rw [hyl]; decide)) := (hfd 3 fd_58_3 rfl).trans (List.getElem?_eq_getElem _)
  obtain ⟨u3, e3, r3⟩ := (inferInstance : Opn Try.prog 30 (Int) _ _).opn h3
  rw [show Try.prog.cellsOf 30 = 1 by kernel_rfl] at e3
  refine ⟨⟨u0, u1, u2, u3⟩, ?_, r0, r1, r2, r3⟩
  have hcs : cs = (cs.drop 0).take 1 ++ ((cs.drop 1).take 1 ++ ((cs.drop 2).take 1 ++ ((cs.drop 3).take 1 ++ (cs.drop 4)))) := by
    conv => lhs; rw [← List.drop_zero (l := cs)]
    conv => lhs; rw [cut_drop cs 0 1]
    conv => lhs; arg 2; rw [cut_drop cs 1 1]
    conv => lhs; arg 2; arg 2; rw [cut_drop cs 2 1]
    conv => lhs; arg 2; arg 2; arg 2; rw [cut_drop cs 3 1]
  rw [show cs.drop 4 = [] from List.drop_eq_nil_of_le (by omega)] at hcs
  refine hcs.trans ?_
  rw [e0, e1, e2, e3]; rfl⟩
instance : Opn Try.prog 60 SsaBlock (by infer_instance) (by infer_instance) := ⟨fun {H enc W fuel cs x} h => by
  obtain ⟨ys, n', _, _, hlen, hyl, hfd⟩ := DataW.trod_struct U_60 h
  have hlen : cs.length = 6 := hlen.trans (by kernel_rfl)
  have hyl : ys.length = 3 := hyl
  have h0 : DataW.trod enc Try.prog W 0 (fun _ => true) true n' 48 ((cs.drop 0).take (Try.prog.cellsOf 48)) = some (ys[0]'(by rw [hyl]; decide)) := (hfd 0 fd_60_0 rfl).trans (List.getElem?_eq_getElem _)
  obtain ⟨u0, e0, r0⟩ := (inferInstance : Opn Try.prog 48 (Sl Int) _ _).opn h0
  rw [show Try.prog.cellsOf 48 = 1 by kernel_rfl] at e0
  have h1 : DataW.trod enc Try.prog W 0 (fun _ => true) true n' 52 ((cs.drop 1).take (Try.prog.cellsOf 52)) = some (ys[1]'(by rw [hyl]; decide)) := (hfd 1 fd_60_1 rfl).trans (List.getElem?_eq_getElem _)
  obtain ⟨u1, e1, r1⟩ := (inferInstance : Opn Try.prog 52 (Sl SsaIns) _ _).opn h1
  rw [show Try.prog.cellsOf 52 = 1 by kernel_rfl] at e1
  have h2 : DataW.trod enc Try.prog W 0 (fun _ => true) true n' 58 ((cs.drop 2).take (Try.prog.cellsOf 58)) = some (ys[2]'(by rw [hyl]; decide)) := (hfd 2 fd_60_2 rfl).trans (List.getElem?_eq_getElem _)
  obtain ⟨u2, e2, r2⟩ := (inferInstance : Opn Try.prog 58 (SsaEnd) _ _).opn h2
  rw [show Try.prog.cellsOf 58 = 4 by kernel_rfl] at e2
  refine ⟨⟨u0, u1, u2⟩, ?_, r0, r1, r2⟩
  have hcs : cs = (cs.drop 0).take 1 ++ ((cs.drop 1).take 1 ++ ((cs.drop 2).take 4 ++ (cs.drop 6))) := by
    conv => lhs; rw [← List.drop_zero (l := cs)]
    conv => lhs; rw [cut_drop cs 0 1]
    conv => lhs; arg 2; rw [cut_drop cs 1 1]
    conv => lhs; arg 2; arg 2; rw [cut_drop cs 2 4]
  rw [show cs.drop 6 = [] from List.drop_eq_nil_of_le (by omega)] at hcs
  refine hcs.trans ?_
  rw [e0, e1, e2]; rfl⟩
instance : Opn Try.prog 61 (Sl SsaBlock) (by infer_instance) (by infer_instance) := opn_slice U_61 inferInstance (by kernel_rfl)
instance : Opn Try.prog 63 SsaFunc (by infer_instance) (by infer_instance) := ⟨fun {H enc W fuel cs x} h => by
  obtain ⟨ys, n', _, _, hlen, hyl, hfd⟩ := DataW.trod_struct U_63 h
  have hlen : cs.length = 2 := hlen.trans (by kernel_rfl)
  have hyl : ys.length = 2 := hyl
  have h0 : DataW.trod enc Try.prog W 0 (fun _ => true) true n' 9 ((cs.drop 0).take (Try.prog.cellsOf 9)) = some (ys[0]'(by rw [hyl]; decide)) := (hfd 0 fd_63_0 rfl).trans (List.getElem?_eq_getElem _)
  obtain ⟨u0, e0, r0⟩ := (inferInstance : Opn Try.prog 9 (Str) _ _).opn h0
  rw [show Try.prog.cellsOf 9 = 1 by kernel_rfl] at e0
  have h1 : DataW.trod enc Try.prog W 0 (fun _ => true) true n' 61 ((cs.drop 1).take (Try.prog.cellsOf 61)) = some (ys[1]'(by rw [hyl]; decide)) := (hfd 1 fd_63_1 rfl).trans (List.getElem?_eq_getElem _)
  obtain ⟨u1, e1, r1⟩ := (inferInstance : Opn Try.prog 61 (Sl SsaBlock) _ _).opn h1
  rw [show Try.prog.cellsOf 61 = 1 by kernel_rfl] at e1
  refine ⟨⟨u0, u1⟩, ?_, r0, r1⟩
  have hcs : cs = (cs.drop 0).take 1 ++ ((cs.drop 1).take 1 ++ (cs.drop 2)) := by
    conv => lhs; rw [← List.drop_zero (l := cs)]
    conv => lhs; rw [cut_drop cs 0 1]
    conv => lhs; arg 2; rw [cut_drop cs 1 1]
  rw [show cs.drop 2 = [] from List.drop_eq_nil_of_le (by omega)] at hcs
  refine hcs.trans ?_
  rw [e0, e1]; rfl⟩
instance : Opn Try.prog 23 (Sl SsaFunc) (by infer_instance) (by infer_instance) := opn_slice U_23 inferInstance (by kernel_rfl)
instance : Opn Try.prog 25 SsaProg (by infer_instance) (by infer_instance) := ⟨fun {H enc W fuel cs x} h => by
  obtain ⟨ys, n', _, _, hlen, hyl, hfd⟩ := DataW.trod_struct U_25 h
  have hlen : cs.length = 3 := hlen.trans (by kernel_rfl)
  have hyl : ys.length = 3 := hyl
  have h0 : DataW.trod enc Try.prog W 0 (fun _ => true) true n' 22 ((cs.drop 0).take (Try.prog.cellsOf 22)) = some (ys[0]'(by rw [hyl]; decide)) := (hfd 0 fd_25_0 rfl).trans (List.getElem?_eq_getElem _)
  obtain ⟨u0, e0, r0⟩ := (inferInstance : Opn Try.prog 22 (Sl SsaArray) _ _).opn h0
  rw [show Try.prog.cellsOf 22 = 1 by kernel_rfl] at e0
  have h1 : DataW.trod enc Try.prog W 0 (fun _ => true) true n' 23 ((cs.drop 1).take (Try.prog.cellsOf 23)) = some (ys[1]'(by rw [hyl]; decide)) := (hfd 1 fd_25_1 rfl).trans (List.getElem?_eq_getElem _)
  obtain ⟨u1, e1, r1⟩ := (inferInstance : Opn Try.prog 23 (Sl SsaFunc) _ _).opn h1
  rw [show Try.prog.cellsOf 23 = 1 by kernel_rfl] at e1
  have h2 : DataW.trod enc Try.prog W 0 (fun _ => true) true n' 3 ((cs.drop 2).take (Try.prog.cellsOf 3)) = some (ys[2]'(by rw [hyl]; decide)) := (hfd 2 fd_25_2 rfl).trans (List.getElem?_eq_getElem _)
  obtain ⟨u2, e2, r2⟩ := (inferInstance : Opn Try.prog 3 (Int) _ _).opn h2
  rw [show Try.prog.cellsOf 3 = 1 by kernel_rfl] at e2
  refine ⟨⟨u0, u1, u2⟩, ?_, r0, r1, r2⟩
  have hcs : cs = (cs.drop 0).take 1 ++ ((cs.drop 1).take 1 ++ ((cs.drop 2).take 1 ++ (cs.drop 3))) := by
    conv => lhs; rw [← List.drop_zero (l := cs)]
    conv => lhs; rw [cut_drop cs 0 1]
    conv => lhs; arg 2; rw [cut_drop cs 1 1]
    conv => lhs; arg 2; arg 2; rw [cut_drop cs 2 1]
  rw [show cs.drop 3 = [] from List.drop_eq_nil_of_le (by omega)] at hcs
  refine hcs.trans ?_
  rw [e0, e1, e2]; rfl⟩
instance : Opn Try.prog 45 (Sl Int) (by infer_instance) (by infer_instance) := opn_slice U_45 inferInstance (by kernel_rfl)
instance : Opn Try.prog 26 (Sl (Sl Int)) (by infer_instance) (by infer_instance) := opn_slice U_26 inferInstance (by kernel_rfl)
instance : Opn Try.prog 84 (Int) (by infer_instance) (by infer_instance) := opn_int U_84
instance : Opn Try.prog 86 ApiLeak (by infer_instance) (by infer_instance) := ⟨fun {H enc W fuel cs x} h => by
  obtain ⟨ys, n', _, _, hlen, hyl, hfd⟩ := DataW.trod_struct U_86 h
  have hlen : cs.length = 3 := hlen.trans (by kernel_rfl)
  have hyl : ys.length = 3 := hyl
  have h0 : DataW.trod enc Try.prog W 0 (fun _ => true) true n' 84 ((cs.drop 0).take (Try.prog.cellsOf 84)) = some (ys[0]'(by rw [hyl]; decide)) := (hfd 0 fd_86_0 rfl).trans (List.getElem?_eq_getElem _)
  obtain ⟨u0, e0, r0⟩ := (inferInstance : Opn Try.prog 84 (Int) _ _).opn h0
  rw [show Try.prog.cellsOf 84 = 1 by kernel_rfl] at e0
  have h1 : DataW.trod enc Try.prog W 0 (fun _ => true) true n' 2 ((cs.drop 1).take (Try.prog.cellsOf 2)) = some (ys[1]'(by rw [hyl]; decide)) := (hfd 1 fd_86_1 rfl).trans (List.getElem?_eq_getElem _)
  obtain ⟨u1, e1, r1⟩ := (inferInstance : Opn Try.prog 2 (Int) _ _).opn h1
  rw [show Try.prog.cellsOf 2 = 1 by kernel_rfl] at e1
  have h2 : DataW.trod enc Try.prog W 0 (fun _ => true) true n' 2 ((cs.drop 2).take (Try.prog.cellsOf 2)) = some (ys[2]'(by rw [hyl]; decide)) := (hfd 2 fd_86_2 rfl).trans (List.getElem?_eq_getElem _)
  obtain ⟨u2, e2, r2⟩ := (inferInstance : Opn Try.prog 2 (Int) _ _).opn h2
  rw [show Try.prog.cellsOf 2 = 1 by kernel_rfl] at e2
  refine ⟨⟨u0, u1, u2⟩, ?_, r0, r1, r2⟩
  have hcs : cs = (cs.drop 0).take 1 ++ ((cs.drop 1).take 1 ++ ((cs.drop 2).take 1 ++ (cs.drop 3))) := by
    conv => lhs; rw [← List.drop_zero (l := cs)]
    conv => lhs; rw [cut_drop cs 0 1]
    conv => lhs; arg 2; rw [cut_drop cs 1 1]
    conv => lhs; arg 2; arg 2; rw [cut_drop cs 2 1]
  rw [show cs.drop 3 = [] from List.drop_eq_nil_of_le (by omega)] at hcs
  refine hcs.trans ?_
  rw [e0, e1, e2]; rfl⟩
instance : Opn Try.prog 31 (Sl ApiLeak) (by infer_instance) (by infer_instance) := opn_slice U_31 inferInstance (by kernel_rfl)
instance : Opn Try.prog 33 SimResult (by infer_instance) (by infer_instance) := ⟨fun {H enc W fuel cs x} h => by
  obtain ⟨ys, n', _, _, hlen, hyl, hfd⟩ := DataW.trod_struct U_33 h
  have hlen : cs.length = 6 := hlen.trans (by kernel_rfl)
  have hyl : ys.length = 6 := hyl
  have h0 : DataW.trod enc Try.prog W 0 (fun _ => true) true n' 2 ((cs.drop 0).take (Try.prog.cellsOf 2)) = some (ys[0]'(by rw [hyl]; decide)) := (hfd 0 fd_33_0 rfl).trans (List.getElem?_eq_getElem _)
  obtain ⟨u0, e0, r0⟩ := (inferInstance : Opn Try.prog 2 (Int) _ _).opn h0
  rw [show Try.prog.cellsOf 2 = 1 by kernel_rfl] at e0
  have h1 : DataW.trod enc Try.prog W 0 (fun _ => true) true n' 30 ((cs.drop 1).take (Try.prog.cellsOf 30)) = some (ys[1]'(by rw [hyl]; decide)) := (hfd 1 fd_33_1 rfl).trans (List.getElem?_eq_getElem _)
  obtain ⟨u1, e1, r1⟩ := (inferInstance : Opn Try.prog 30 (Int) _ _).opn h1
  rw [show Try.prog.cellsOf 30 = 1 by kernel_rfl] at e1
  have h2 : DataW.trod enc Try.prog W 0 (fun _ => true) true n' 31 ((cs.drop 2).take (Try.prog.cellsOf 31)) = some (ys[2]'(by rw [hyl]; decide)) := (hfd 2 fd_33_2 rfl).trans (List.getElem?_eq_getElem _)
  obtain ⟨u2, e2, r2⟩ := (inferInstance : Opn Try.prog 31 (Sl ApiLeak) _ _).opn h2
  rw [show Try.prog.cellsOf 31 = 1 by kernel_rfl] at e2
  have h3 : DataW.trod enc Try.prog W 0 (fun _ => true) true n' 3 ((cs.drop 3).take (Try.prog.cellsOf 3)) = some (ys[3]'(by rw [hyl]; decide)) := (hfd 3 fd_33_3 rfl).trans (List.getElem?_eq_getElem _)
  obtain ⟨u3, e3, r3⟩ := (inferInstance : Opn Try.prog 3 (Int) _ _).opn h3
  rw [show Try.prog.cellsOf 3 = 1 by kernel_rfl] at e3
  have h4 : DataW.trod enc Try.prog W 0 (fun _ => true) true n' 3 ((cs.drop 4).take (Try.prog.cellsOf 3)) = some (ys[4]'(by rw [hyl]; decide)) := (hfd 4 fd_33_4 rfl).trans (List.getElem?_eq_getElem _)
  obtain ⟨u4, e4, r4⟩ := (inferInstance : Opn Try.prog 3 (Int) _ _).opn h4
  rw [show Try.prog.cellsOf 3 = 1 by kernel_rfl] at e4
  have h5 : DataW.trod enc Try.prog W 0 (fun _ => true) true n' 26 ((cs.drop 5).take (Try.prog.cellsOf 26)) = some (ys[5]'(by rw [hyl]; decide)) := (hfd 5 fd_33_5 rfl).trans (List.getElem?_eq_getElem _)
  obtain ⟨u5, e5, r5⟩ := (inferInstance : Opn Try.prog 26 (Sl (Sl Int)) _ _).opn h5
  rw [show Try.prog.cellsOf 26 = 1 by kernel_rfl] at e5
  refine ⟨⟨u0, u1, u2, u3, u4, u5⟩, ?_, r0, r1, r2, r3, r4, r5⟩
  have hcs : cs = (cs.drop 0).take 1 ++ ((cs.drop 1).take 1 ++ ((cs.drop 2).take 1 ++ ((cs.drop 3).take 1 ++ ((cs.drop 4).take 1 ++ ((cs.drop 5).take 1 ++ (cs.drop 6)))))) := by
    conv => lhs; rw [← List.drop_zero (l := cs)]
    conv => lhs; rw [cut_drop cs 0 1]
    conv => lhs; arg 2; rw [cut_drop cs 1 1]
    conv => lhs; arg 2; arg 2; rw [cut_drop cs 2 1]
    conv => lhs; arg 2; arg 2; arg 2; rw [cut_drop cs 3 1]
    conv => lhs; arg 2; arg 2; arg 2; arg 2; rw [cut_drop cs 4 1]
    conv => lhs; arg 2; arg 2; arg 2; arg 2; arg 2; rw [cut_drop cs 5 1]
  rw [show cs.drop 6 = [] from List.drop_eq_nil_of_le (by omega)] at hcs
  refine hcs.trans ?_
  rw [e0, e1, e2, e3, e4, e5]; rfl⟩
instance : Opn Try.prog 34 (Int) (by infer_instance) (by infer_instance) := opn_int U_34
instance : Opn Try.prog 41 Palingslaw08Own (by infer_instance) (by infer_instance) := ⟨fun {H enc W fuel cs x} h => by
  obtain ⟨ys, n', _, _, hlen, hyl, hfd⟩ := DataW.trod_struct U_41 h
  have hlen : cs.length = 8 := hlen.trans (by kernel_rfl)
  have hyl : ys.length = 6 := hyl
  have h0 : DataW.trod enc Try.prog W 0 (fun _ => true) true n' 25 ((cs.drop 0).take (Try.prog.cellsOf 25)) = some (ys[0]'(by rw [hyl]; decide)) := (hfd 0 fd_41_0 rfl).trans (List.getElem?_eq_getElem _)
  obtain ⟨u0, e0, r0⟩ := (inferInstance : Opn Try.prog 25 (SsaProg) _ _).opn h0
  rw [show Try.prog.cellsOf 25 = 3 by kernel_rfl] at e0
  have h1 : DataW.trod enc Try.prog W 0 (fun _ => true) true n' 26 ((cs.drop 3).take (Try.prog.cellsOf 26)) = some (ys[1]'(by rw [hyl]; decide)) := (hfd 1 fd_41_1 rfl).trans (List.getElem?_eq_getElem _)
  obtain ⟨u1, e1, r1⟩ := (inferInstance : Opn Try.prog 26 (Sl (Sl Int)) _ _).opn h1
  rw [show Try.prog.cellsOf 26 = 1 by kernel_rfl] at e1
  have h2 : DataW.trod enc Try.prog W 0 (fun _ => true) true n' 31 ((cs.drop 4).take (Try.prog.cellsOf 31)) = some (ys[2]'(by rw [hyl]; decide)) := (hfd 2 fd_41_2 rfl).trans (List.getElem?_eq_getElem _)
  obtain ⟨u2, e2, r2⟩ := (inferInstance : Opn Try.prog 31 (Sl ApiLeak) _ _).opn h2
  rw [show Try.prog.cellsOf 31 = 1 by kernel_rfl] at e2
  have h3 : DataW.trod enc Try.prog W 0 (fun _ => true) true n' 3 ((cs.drop 5).take (Try.prog.cellsOf 3)) = some (ys[3]'(by rw [hyl]; decide)) := (hfd 3 fd_41_3 rfl).trans (List.getElem?_eq_getElem _)
  obtain ⟨u3, e3, r3⟩ := (inferInstance : Opn Try.prog 3 (Int) _ _).opn h3
  rw [show Try.prog.cellsOf 3 = 1 by kernel_rfl] at e3
  have h4 : DataW.trod enc Try.prog W 0 (fun _ => true) true n' 30 ((cs.drop 6).take (Try.prog.cellsOf 30)) = some (ys[4]'(by rw [hyl]; decide)) := (hfd 4 fd_41_4 rfl).trans (List.getElem?_eq_getElem _)
  obtain ⟨u4, e4, r4⟩ := (inferInstance : Opn Try.prog 30 (Int) _ _).opn h4
  rw [show Try.prog.cellsOf 30 = 1 by kernel_rfl] at e4
  have h5 : DataW.trod enc Try.prog W 0 (fun _ => true) true n' 4 ((cs.drop 7).take (Try.prog.cellsOf 4)) = some (ys[5]'(by rw [hyl]; decide)) := (hfd 5 fd_41_5 rfl).trans (List.getElem?_eq_getElem _)
  obtain ⟨u5, e5, r5⟩ := (inferInstance : Opn Try.prog 4 (Bool) _ _).opn h5
  rw [show Try.prog.cellsOf 4 = 1 by kernel_rfl] at e5
  refine ⟨⟨u0, u1, u2, u3, u4, u5⟩, ?_, r0, r1, r2, r3, r4, r5⟩
  have hcs : cs = (cs.drop 0).take 3 ++ ((cs.drop 3).take 1 ++ ((cs.drop 4).take 1 ++ ((cs.drop 5).take 1 ++ ((cs.drop 6).take 1 ++ ((cs.drop 7).take 1 ++ (cs.drop 8)))))) := by
    conv => lhs; rw [← List.drop_zero (l := cs)]
    conv => lhs; rw [cut_drop cs 0 3]
    conv => lhs; arg 2; rw [cut_drop cs 3 1]
    conv => lhs; arg 2; arg 2; rw [cut_drop cs 4 1]
    conv => lhs; arg 2; arg 2; arg 2; rw [cut_drop cs 5 1]
    conv => lhs; arg 2; arg 2; arg 2; arg 2; rw [cut_drop cs 6 1]
    conv => lhs; arg 2; arg 2; arg 2; arg 2; arg 2; rw [cut_drop cs 7 1]
  rw [show cs.drop 8 = [] from List.drop_eq_nil_of_le (by omega)] at hcs
  refine hcs.trans ?_
  rw [e0, e1, e2, e3, e4, e5]; rfl⟩
instance : Opn Try.prog 99 (Sl Bool) (by infer_instance) (by infer_instance) := opn_slice U_99 inferInstance (by kernel_rfl)
instance : Opn Try.prog 105 (Iof .u64) (by infer_instance) (by infer_instance) := opn_iof U_105
instance : Opn Try.prog 120 (Iof .u32) (by infer_instance) (by infer_instance) := opn_iof U_120
theorem foI : Try.prog.follows .mixedOrders = true := by kernel_rfl
instance : IsFc Try.prog 3 := ⟨_, F_3⟩
instance : IsFc Try.prog 4 := ⟨_, F_4⟩
instance : IsFc Try.prog 5 := ⟨_, F_5⟩
instance : IsFc Try.prog 6 := ⟨_, F_6⟩
instance : IsFc Try.prog 7 := ⟨_, F_7⟩
instance : IsFc Try.prog 8 := ⟨_, F_8⟩
instance : IsFc Try.prog 9 := ⟨_, F_9⟩
instance : IsFc Try.prog 10 := ⟨_, F_10⟩
instance : IsFc Try.prog 11 := ⟨_, F_11⟩
instance : IsFc Try.prog 12 := ⟨_, F_12⟩
instance : IsFc Try.prog 13 := ⟨_, F_13⟩
instance : IsFc Try.prog 14 := ⟨_, F_14⟩
instance : IsFc Try.prog 15 := ⟨_, F_15⟩
instance : IsFc Try.prog 16 := ⟨_, F_16⟩
instance : IsFc Try.prog 17 := ⟨_, F_17⟩
instance : IsFc Try.prog 18 := ⟨_, F_18⟩
instance : IsFc Try.prog 19 := ⟨_, F_19⟩
instance : IsFc Try.prog 20 := ⟨_, F_20⟩
instance : IsFc Try.prog 21 := ⟨_, F_21⟩
instance : IsFc Try.prog 22 := ⟨_, F_22⟩
instance : IsFc Try.prog 23 := ⟨_, F_23⟩
instance : IsFc Try.prog 24 := ⟨_, F_24⟩
instance : IsFc Try.prog 25 := ⟨_, F_25⟩
instance : IsFc Try.prog 26 := ⟨_, F_26⟩
instance : IsFc Try.prog 27 := ⟨_, F_27⟩
instance : IsFc Try.prog 28 := ⟨_, F_28⟩
instance : IsFc Try.prog 29 := ⟨_, F_29⟩
instance : IsFc Try.prog 30 := ⟨_, F_30⟩
instance : IsFc Try.prog 31 := ⟨_, F_31⟩
instance : IsFc Try.prog 32 := ⟨_, F_32⟩
instance : IsFc Try.prog 33 := ⟨_, F_33⟩
instance : IsFc Try.prog 34 := ⟨_, F_34⟩
instance : IsFc Try.prog 35 := ⟨_, F_35⟩
instance : IsFc Try.prog 36 := ⟨_, F_36⟩
instance : IsFc Try.prog 37 := ⟨_, F_37⟩
instance : IsFc Try.prog 38 := ⟨_, F_38⟩
instance : IsFc Try.prog 39 := ⟨_, F_39⟩
instance : IsFc Try.prog 40 := ⟨_, F_40⟩
instance : IsFc Try.prog 41 := ⟨_, F_41⟩
instance : IsFc Try.prog 42 := ⟨_, F_42⟩
instance : IsFc Try.prog 43 := ⟨_, F_43⟩
instance : IsFc Try.prog 44 := ⟨_, F_44⟩
instance : IsFc Try.prog 45 := ⟨_, F_45⟩
instance : IsFc Try.prog 46 := ⟨_, F_46⟩
instance : IsFc Try.prog 47 := ⟨_, F_47⟩
end Go.Proofs.Ytoknjpmlloikhaa
