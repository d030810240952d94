/- The types of this program, as Lean types (written by a program). -/
import Derived.Test.YtomhieglgfjloaaA6
import Derived.Test.YtomhieglgfjloaaFacts
namespace Go.Proofs.Ytomhieglgfjloaa
set_option linter.unusedVariables false
set_option linter.unusedSimpArgs false
open Go Go.RowKit

structure SsaArray where
  fName : Str
  fHold : Int
  fSize : Int
instance : Enc SsaArray where
  enc := fun x => [.string x.fName.v, .int .i64 x.fHold, .int .i64 x.fSize]
  sz := 3
  dflt := ⟨Enc.dflt, Enc.dflt, Enc.dflt⟩
  len := fun _ => rfl
  one := by
    intro x u h
    simp only [List.mem_cons, List.not_mem_nil, or_false] at h
    rcases h with rfl | rfl | rfl <;> rfl
  pos := by decide
instance : Dp SsaArray where
  rd := fun ok w x => Dp.rd ok w x.fName ∧ Dp.rd ok w x.fHold ∧ Dp.rd ok w x.fSize
  loc := fun h hk => ⟨Dp.loc h.1 hk, Dp.loc h.2.1 hk, Dp.loc h.2.2 hk⟩
  dflt := fun ok w => ⟨Dp.dflt ok w, Dp.dflt ok w, Dp.dflt ok w⟩
instance {ok : FP} {w : World} {x : SsaArray} [h : RdD ok w x] : RdD ok w x.fName := ⟨h.h.1⟩
instance {ok : FP} {w : World} {x : SsaArray} [h : RdD ok w x] : RdD ok w x.fHold := ⟨h.h.2.1⟩
instance {ok : FP} {w : World} {x : SsaArray} [h : RdD ok w x] : RdD ok w x.fSize := ⟨h.h.2.2⟩
structure SsaIns where
  fOp : Int
  fDst : Int
  fArgs : Sl Int
  fNum : Int
  fBin : Int
  fArr : Int
  fFn : Int
instance : Enc SsaIns where
  enc := fun x => [.int .i64 x.fOp, .int .i64 x.fDst, .slice x.fArgs.A x.fArgs.xs.length x.fArgs.c, .int .i64 x.fNum, .int .i64 x.fBin, .int .i64 x.fArr, .int .i64 x.fFn]
  sz := 7
  dflt := ⟨Enc.dflt, Enc.dflt, Enc.dflt, Enc.dflt, Enc.dflt, Enc.dflt, Enc.dflt⟩
  len := fun _ => rfl
  one := by
    intro x u h
    simp only [List.mem_cons, List.not_mem_nil, or_false] at h
    rcases h with rfl | rfl | rfl | rfl | rfl | rfl | rfl <;> rfl
  pos := by decide
instance : Dp SsaIns where
  rd := fun ok w x => Dp.rd ok w x.fOp ∧ Dp.rd ok w x.fDst ∧ Dp.rd ok w x.fArgs ∧ Dp.rd ok w x.fNum ∧ Dp.rd ok w x.fBin ∧ Dp.rd ok w x.fArr ∧ Dp.rd ok w x.fFn
  loc := fun h hk => ⟨Dp.loc h.1 hk, Dp.loc h.2.1 hk, Dp.loc h.2.2.1 hk, Dp.loc h.2.2.2.1 hk, Dp.loc h.2.2.2.2.1 hk, Dp.loc h.2.2.2.2.2.1 hk, Dp.loc h.2.2.2.2.2.2 hk⟩
  dflt := fun ok w => ⟨Dp.dflt ok w, Dp.dflt ok w, Dp.dflt ok w, Dp.dflt ok w, Dp.dflt ok w, Dp.dflt ok w, Dp.dflt ok w⟩
instance {ok : FP} {w : World} {x : SsaIns} [h : RdD ok w x] : RdD ok w x.fOp := ⟨h.h.1⟩
instance {ok : FP} {w : World} {x : SsaIns} [h : RdD ok w x] : RdD ok w x.fDst := ⟨h.h.2.1⟩
instance {ok : FP} {w : World} {x : SsaIns} [h : RdD ok w x] : RdD ok w x.fArgs := ⟨h.h.2.2.1⟩
instance {ok : FP} {w : World} {x : SsaIns} [h : RdD ok w x] : RdD ok w x.fNum := ⟨h.h.2.2.2.1⟩
instance {ok : FP} {w : World} {x : SsaIns} [h : RdD ok w x] : RdD ok w x.fBin := ⟨h.h.2.2.2.2.1⟩
instance {ok : FP} {w : World} {x : SsaIns} [h : RdD ok w x] : RdD ok w x.fArr := ⟨h.h.2.2.2.2.2.1⟩
instance {ok : FP} {w : World} {x : SsaIns} [h : RdD ok w x] : RdD ok w x.fFn := ⟨h.h.2.2.2.2.2.2⟩
structure SsaEdge where
  fTo : Int
  fArgs : Sl Int
instance : Enc SsaEdge where
  enc := fun x => [.int .i64 x.fTo, .slice x.fArgs.A x.fArgs.xs.length x.fArgs.c]
  sz := 2
  dflt := ⟨Enc.dflt, Enc.dflt⟩
  len := fun _ => rfl
  one := by
    intro x u h
    simp only [List.mem_cons, List.not_mem_nil, or_false] at h
    rcases h with rfl | rfl <;> rfl
  pos := by decide
instance : Dp SsaEdge where
  rd := fun ok w x => Dp.rd ok w x.fTo ∧ Dp.rd ok w x.fArgs
  loc := fun h hk => ⟨Dp.loc h.1 hk, Dp.loc h.2 hk⟩
  dflt := fun ok w => ⟨Dp.dflt ok w, Dp.dflt ok w⟩
instance {ok : FP} {w : World} {x : SsaEdge} [h : RdD ok w x] : RdD ok w x.fTo := ⟨h.h.1⟩
instance {ok : FP} {w : World} {x : SsaEdge} [h : RdD ok w x] : RdD ok w x.fArgs := ⟨h.h.2⟩
structure SsaEnd where
  fKind : Int
  fVal : Int
  fWays : Sl SsaEdge
  fTrap : Int
instance : Enc SsaEnd where
  enc := fun x => [.int .i64 x.fKind, .int .i64 x.fVal, .slice x.fWays.A x.fWays.xs.length x.fWays.c, .int .i64 x.fTrap]
  sz := 4
  dflt := ⟨Enc.dflt, Enc.dflt, Enc.dflt, Enc.dflt⟩
  len := fun _ => rfl
  one := by
    intro x u h
    simp only [List.mem_cons, List.not_mem_nil, or_false] at h
    rcases h with rfl | rfl | rfl | rfl <;> rfl
  pos := by decide
instance : Dp SsaEnd where
  rd := fun ok w x => Dp.rd ok w x.fKind ∧ Dp.rd ok w x.fVal ∧ Dp.rd ok w x.fWays ∧ Dp.rd ok w x.fTrap
  loc := fun h hk => ⟨Dp.loc h.1 hk, Dp.loc h.2.1 hk, Dp.loc h.2.2.1 hk, Dp.loc h.2.2.2 hk⟩
  dflt := fun ok w => ⟨Dp.dflt ok w, Dp.dflt ok w, Dp.dflt ok w, Dp.dflt ok w⟩
instance {ok : FP} {w : World} {x : SsaEnd} [h : RdD ok w x] : RdD ok w x.fKind := ⟨h.h.1⟩
instance {ok : FP} {w : World} {x : SsaEnd} [h : RdD ok w x] : RdD ok w x.fVal := ⟨h.h.2.1⟩
instance {ok : FP} {w : World} {x : SsaEnd} [h : RdD ok w x] : RdD ok w x.fWays := ⟨h.h.2.2.1⟩
instance {ok : FP} {w : World} {x : SsaEnd} [h : RdD ok w x] : RdD ok w x.fTrap := ⟨h.h.2.2.2⟩
structure SsaBlock where
  fParams : Sl Int
  fIns : Sl SsaIns
  fEnd : SsaEnd
instance : Enc SsaBlock where
  enc := fun x => [.slice x.fParams.A x.fParams.xs.length x.fParams.c, .slice x.fIns.A x.fIns.xs.length x.fIns.c, .int .i64 x.fEnd.fKind, .int .i64 x.fEnd.fVal, .slice x.fEnd.fWays.A x.fEnd.fWays.xs.length x.fEnd.fWays.c, .int .i64 x.fEnd.fTrap]
  sz := 6
  dflt := ⟨Enc.dflt, Enc.dflt, Enc.dflt⟩
  len := fun _ => rfl
  one := by
    intro x u h
    simp only [List.mem_cons, List.not_mem_nil, or_false] at h
    rcases h with rfl | rfl | rfl | rfl | rfl | rfl <;> rfl
  pos := by decide
instance : Dp SsaBlock where
  rd := fun ok w x => Dp.rd ok w x.fParams ∧ Dp.rd ok w x.fIns ∧ Dp.rd ok w x.fEnd
  loc := fun h hk => ⟨Dp.loc h.1 hk, Dp.loc h.2.1 hk, Dp.loc h.2.2 hk⟩
  dflt := fun ok w => ⟨Dp.dflt ok w, Dp.dflt ok w, Dp.dflt ok w⟩
instance {ok : FP} {w : World} {x : SsaBlock} [h : RdD ok w x] : RdD ok w x.fParams := ⟨h.h.1⟩
instance {ok : FP} {w : World} {x : SsaBlock} [h : RdD ok w x] : RdD ok w x.fIns := ⟨h.h.2.1⟩
instance {ok : FP} {w : World} {x : SsaBlock} [h : RdD ok w x] : RdD ok w x.fEnd := ⟨h.h.2.2⟩
structure SsaFunc where
  fName : Str
  fBlocks : Sl SsaBlock
instance : Enc SsaFunc where
  enc := fun x => [.string x.fName.v, .slice x.fBlocks.A x.fBlocks.xs.length x.fBlocks.c]
  sz := 2
  dflt := ⟨Enc.dflt, Enc.dflt⟩
  len := fun _ => rfl
  one := by
    intro x u h
    simp only [List.mem_cons, List.not_mem_nil, or_false] at h
    rcases h with rfl | rfl <;> rfl
  pos := by decide
instance : Dp SsaFunc where
  rd := fun ok w x => Dp.rd ok w x.fName ∧ Dp.rd ok w x.fBlocks
  loc := fun h hk => ⟨Dp.loc h.1 hk, Dp.loc h.2 hk⟩
  dflt := fun ok w => ⟨Dp.dflt ok w, Dp.dflt ok w⟩
instance {ok : FP} {w : World} {x : SsaFunc} [h : RdD ok w x] : RdD ok w x.fName := ⟨h.h.1⟩
instance {ok : FP} {w : World} {x : SsaFunc} [h : RdD ok w x] : RdD ok w x.fBlocks := ⟨h.h.2⟩
structure SsaProg where
  fArrays : Sl SsaArray
  fFuncs : Sl SsaFunc
  fMain : Int
instance : Enc SsaProg where
  enc := fun x => [.slice x.fArrays.A x.fArrays.xs.length x.fArrays.c, .slice x.fFuncs.A x.fFuncs.xs.length x.fFuncs.c, .int .i64 x.fMain]
  sz := 3
  dflt := ⟨Enc.dflt, Enc.dflt, Enc.dflt⟩
  len := fun _ => rfl
  one := by
    intro x u h
    simp only [List.mem_cons, List.not_mem_nil, or_false] at h
    rcases h with rfl | rfl | rfl <;> rfl
  pos := by decide
instance : Dp SsaProg where
  rd := fun ok w x => Dp.rd ok w x.fArrays ∧ Dp.rd ok w x.fFuncs ∧ Dp.rd ok w x.fMain
  loc := fun h hk => ⟨Dp.loc h.1 hk, Dp.loc h.2.1 hk, Dp.loc h.2.2 hk⟩
  dflt := fun ok w => ⟨Dp.dflt ok w, Dp.dflt ok w, Dp.dflt ok w⟩
instance {ok : FP} {w : World} {x : SsaProg} [h : RdD ok w x] : RdD ok w x.fArrays := ⟨h.h.1⟩
instance {ok : FP} {w : World} {x : SsaProg} [h : RdD ok w x] : RdD ok w x.fFuncs := ⟨h.h.2.1⟩
instance {ok : FP} {w : World} {x : SsaProg} [h : RdD ok w x] : RdD ok w x.fMain := ⟨h.h.2.2⟩
structure TaintLabels where
  fVals : Sl Mr
  fArrays : Sl Int
  fRets : Sl Int
  fCut : Sl Mr
instance : Enc TaintLabels where
  enc := fun x => [.slice x.fVals.A x.fVals.xs.length x.fVals.c, .slice x.fArrays.A x.fArrays.xs.length x.fArrays.c, .slice x.fRets.A x.fRets.xs.length x.fRets.c, .slice x.fCut.A x.fCut.xs.length x.fCut.c]
  sz := 4
  dflt := ⟨Enc.dflt, Enc.dflt, Enc.dflt, Enc.dflt⟩
  len := fun _ => rfl
  one := by
    intro x u h
    simp only [List.mem_cons, List.not_mem_nil, or_false] at h
    rcases h with rfl | rfl | rfl | rfl <;> rfl
  pos := by decide
instance : Dp TaintLabels where
  rd := fun ok w x => Dp.rd ok w x.fVals ∧ Dp.rd ok w x.fArrays ∧ Dp.rd ok w x.fRets ∧ Dp.rd ok w x.fCut
  loc := fun h hk => ⟨Dp.loc h.1 hk, Dp.loc h.2.1 hk, Dp.loc h.2.2.1 hk, Dp.loc h.2.2.2 hk⟩
  dflt := fun ok w => ⟨Dp.dflt ok w, Dp.dflt ok w, Dp.dflt ok w, Dp.dflt ok w⟩
instance {ok : FP} {w : World} {x : TaintLabels} [h : RdD ok w x] : RdD ok w x.fVals := ⟨h.h.1⟩
instance {ok : FP} {w : World} {x : TaintLabels} [h : RdD ok w x] : RdD ok w x.fArrays := ⟨h.h.2.1⟩
instance {ok : FP} {w : World} {x : TaintLabels} [h : RdD ok w x] : RdD ok w x.fRets := ⟨h.h.2.2.1⟩
instance {ok : FP} {w : World} {x : TaintLabels} [h : RdD ok w x] : RdD ok w x.fCut := ⟨h.h.2.2.2⟩
structure Palingslaw12Facts where
  fVals : Sl Mr
  fArrays : Sl Bool
  fRets : Sl Bool
instance : Enc Palingslaw12Facts where
  enc := fun x => [.slice x.fVals.A x.fVals.xs.length x.fVals.c, .slice x.fArrays.A x.fArrays.xs.length x.fArrays.c, .slice x.fRets.A x.fRets.xs.length x.fRets.c]
  sz := 3
  dflt := ⟨Enc.dflt, Enc.dflt, Enc.dflt⟩
  len := fun _ => rfl
  one := by
    intro x u h
    simp only [List.mem_cons, List.not_mem_nil, or_false] at h
    rcases h with rfl | rfl | rfl <;> rfl
  pos := by decide
instance : Dp Palingslaw12Facts where
  rd := fun ok w x => Dp.rd ok w x.fVals ∧ Dp.rd ok w x.fArrays ∧ Dp.rd ok w x.fRets
  loc := fun h hk => ⟨Dp.loc h.1 hk, Dp.loc h.2.1 hk, Dp.loc h.2.2 hk⟩
  dflt := fun ok w => ⟨Dp.dflt ok w, Dp.dflt ok w, Dp.dflt ok w⟩
instance {ok : FP} {w : World} {x : Palingslaw12Facts} [h : RdD ok w x] : RdD ok w x.fVals := ⟨h.h.1⟩
instance {ok : FP} {w : World} {x : Palingslaw12Facts} [h : RdD ok w x] : RdD ok w x.fArrays := ⟨h.h.2.1⟩
instance {ok : FP} {w : World} {x : Palingslaw12Facts} [h : RdD ok w x] : RdD ok w x.fRets := ⟨h.h.2.2⟩
structure TaintSink where
  fFn : Int
  fBlock : Int
  fAt : Int
  fVal : Int
  fLabel : Int
instance : Enc TaintSink where
  enc := fun x => [.int .i64 x.fFn, .int .i64 x.fBlock, .int .i64 x.fAt, .int .i64 x.fVal, .int .i64 x.fLabel]
  sz := 5
  dflt := ⟨Enc.dflt, Enc.dflt, Enc.dflt, Enc.dflt, Enc.dflt⟩
  len := fun _ => rfl
  one := by
    intro x u h
    simp only [List.mem_cons, List.not_mem_nil, or_false] at h
    rcases h with rfl | rfl | rfl | rfl | rfl <;> rfl
  pos := by decide
instance : Dp TaintSink where
  rd := fun ok w x => Dp.rd ok w x.fFn ∧ Dp.rd ok w x.fBlock ∧ Dp.rd ok w x.fAt ∧ Dp.rd ok w x.fVal ∧ Dp.rd ok w x.fLabel
  loc := fun h hk => ⟨Dp.loc h.1 hk, Dp.loc h.2.1 hk, Dp.loc h.2.2.1 hk, Dp.loc h.2.2.2.1 hk, Dp.loc h.2.2.2.2 hk⟩
  dflt := fun ok w => ⟨Dp.dflt ok w, Dp.dflt ok w, Dp.dflt ok w, Dp.dflt ok w, Dp.dflt ok w⟩
instance {ok : FP} {w : World} {x : TaintSink} [h : RdD ok w x] : RdD ok w x.fFn := ⟨h.h.1⟩
instance {ok : FP} {w : World} {x : TaintSink} [h : RdD ok w x] : RdD ok w x.fBlock := ⟨h.h.2.1⟩
instance {ok : FP} {w : World} {x : TaintSink} [h : RdD ok w x] : RdD ok w x.fAt := ⟨h.h.2.2.1⟩
instance {ok : FP} {w : World} {x : TaintSink} [h : RdD ok w x] : RdD ok w x.fVal := ⟨h.h.2.2.2.1⟩
instance {ok : FP} {w : World} {x : TaintSink} [h : RdD ok w x] : RdD ok w x.fLabel := ⟨h.h.2.2.2.2⟩
structure TaintSolver where
  fP : SsaProg
  fL : TaintLabels
  fWrites : Sl Bool
  fTurned : Bool
instance : Enc TaintSolver where
  enc := fun x => [.slice x.fP.fArrays.A x.fP.fArrays.xs.length x.fP.fArrays.c, .slice x.fP.fFuncs.A x.fP.fFuncs.xs.length x.fP.fFuncs.c, .int .i64 x.fP.fMain, .slice x.fL.fVals.A x.fL.fVals.xs.length x.fL.fVals.c, .slice x.fL.fArrays.A x.fL.fArrays.xs.length x.fL.fArrays.c, .slice x.fL.fRets.A x.fL.fRets.xs.length x.fL.fRets.c, .slice x.fL.fCut.A x.fL.fCut.xs.length x.fL.fCut.c, .slice x.fWrites.A x.fWrites.xs.length x.fWrites.c, .bool x.fTurned]
  sz := 9
  dflt := ⟨Enc.dflt, Enc.dflt, Enc.dflt, Enc.dflt⟩
  len := fun _ => rfl
  one := by
    intro x u h
    simp only [List.mem_cons, List.not_mem_nil, or_false] at h
    rcases h with rfl | rfl | rfl | rfl | rfl | rfl | rfl | rfl | rfl <;> rfl
  pos := by decide
instance : Dp TaintSolver where
  rd := fun ok w x => Dp.rd ok w x.fP ∧ Dp.rd ok w x.fL ∧ Dp.rd ok w x.fWrites ∧ Dp.rd ok w x.fTurned
  loc := fun h hk => ⟨Dp.loc h.1 hk, Dp.loc h.2.1 hk, Dp.loc h.2.2.1 hk, Dp.loc h.2.2.2 hk⟩
  dflt := fun ok w => ⟨Dp.dflt ok w, Dp.dflt ok w, Dp.dflt ok w, Dp.dflt ok w⟩
instance {ok : FP} {w : World} {x : TaintSolver} [h : RdD ok w x] : RdD ok w x.fP := ⟨h.h.1⟩
instance {ok : FP} {w : World} {x : TaintSolver} [h : RdD ok w x] : RdD ok w x.fL := ⟨h.h.2.1⟩
instance {ok : FP} {w : World} {x : TaintSolver} [h : RdD ok w x] : RdD ok w x.fWrites := ⟨h.h.2.2.1⟩
instance {ok : FP} {w : World} {x : TaintSolver} [h : RdD ok w x] : RdD ok w x.fTurned := ⟨h.h.2.2.2⟩
instance : C1 Try.prog 2 := ⟨T1_2⟩
instance : Elt Try.prog 2 (Int) (by infer_instance) 1 8 := ⟨⟨_, TI_2, rfl⟩, rfl⟩
instance : Ekc Try.prog 2 Int (ekInt U_2) := ⟨TI_2.zero, fun _ => rfl⟩
instance : C1 Try.prog 3 := ⟨T1_3⟩
instance : Elt Try.prog 3 (Int) (by infer_instance) 1 8 := ⟨⟨_, TI_3, rfl⟩, rfl⟩
instance : Ekc Try.prog 3 Int (ekInt U_3) := ⟨TI_3.zero, fun _ => rfl⟩
instance : C1 Try.prog 4 := ⟨T1_4⟩
instance : Elt Try.prog 4 (Bool) (by infer_instance) 1 1 := ⟨⟨_, TI_4, rfl⟩, rfl⟩
instance : Ekc Try.prog 4 Bool (ekBool U_4) := ⟨TI_4.zero, fun _ => rfl⟩
instance : BoT Try.prog 4 := ⟨U_4⟩
instance : C1 Try.prog 5 := ⟨T1_5⟩
instance : Elt Try.prog 5 (Iof .u8) (by infer_instance) 1 1 := ⟨⟨_, TI_5, rfl⟩, rfl⟩
instance : C1 Try.prog 9 := ⟨T1_9⟩
instance : Elt Try.prog 9 (Str) (by infer_instance) 1 16 := ⟨⟨_, TI_9, rfl⟩, rfl⟩
instance : C1 Try.prog 12 := ⟨T1_12⟩
instance : Elt Try.prog 12 (Iof .u64) (by infer_instance) 1 8 := ⟨⟨_, TI_12, rfl⟩, rfl⟩
instance : CA Try.prog 13 2 := ⟨TA_13⟩
instance : C1 Try.prog 21 := ⟨T1_21⟩
instance : Elt Try.prog 21 (Iof .i32) (by infer_instance) 1 4 := ⟨⟨_, TI_21, rfl⟩, rfl⟩
instance : C1 Try.prog 22 := ⟨T1_22⟩
instance : Elt Try.prog 22 (Sl SsaArray) (by infer_instance) 1 24 := ⟨⟨_, TI_22, rfl⟩, rfl⟩
instance : SlT Try.prog 22 66 := ⟨U_22⟩
instance : C1 Try.prog 23 := ⟨T1_23⟩
instance : Elt Try.prog 23 (Sl SsaFunc) (by infer_instance) 1 24 := ⟨⟨_, TI_23, rfl⟩, rfl⟩
instance : SlT Try.prog 23 46 := ⟨U_23⟩
instance : CA Try.prog 24 3 := ⟨TA_24⟩
instance : CA Try.prog 25 3 := ⟨TA_25⟩
instance : Elt Try.prog 25 (SsaProg) (by infer_instance) 3 56 := ⟨⟨_, TI_25, rfl⟩, rfl⟩
instance : FldT Try.prog 25 0 0 := ⟨_, fd_25_0, 0, U_25, rfl, rfl, T1_22.sz⟩
instance : FldT Try.prog 25 1 1 := ⟨_, fd_25_1, 0, U_25, rfl, rfl, T1_23.sz⟩
instance : FldT Try.prog 25 2 2 := ⟨_, fd_25_2, 0, U_25, rfl, rfl, T1_3.sz⟩
instance : C1 Try.prog 26 := ⟨T1_26⟩
instance : Elt Try.prog 26 (Sl Mr) (by infer_instance) 1 24 := ⟨⟨_, TI_26, rfl⟩, rfl⟩
instance : SlT Try.prog 26 29 := ⟨U_26⟩
instance : C1 Try.prog 29 := ⟨T1_29⟩
instance : Elt Try.prog 29 (Mr) (by infer_instance) 1 8 := ⟨⟨_, TI_29, rfl⟩, rfl⟩
instance : MpT Try.prog 29 3 4 := ⟨U_29, U_3⟩
instance : C1 Try.prog 30 := ⟨T1_30⟩
instance : Elt Try.prog 30 (Sl Mr) (by infer_instance) 1 24 := ⟨⟨_, TI_30, rfl⟩, rfl⟩
instance : SlT Try.prog 30 56 := ⟨U_30⟩
instance : C1 Try.prog 31 := ⟨T1_31⟩
instance : Elt Try.prog 31 (Sl Int) (by infer_instance) 1 24 := ⟨⟨_, TI_31, rfl⟩, rfl⟩
instance : SlT Try.prog 31 42 := ⟨U_31⟩
instance : CA Try.prog 32 4 := ⟨TA_32⟩
instance : CA Try.prog 33 4 := ⟨TA_33⟩
instance : Elt Try.prog 33 (TaintLabels) (by infer_instance) 4 96 := ⟨⟨_, TI_33, rfl⟩, rfl⟩
instance : FldT Try.prog 33 0 0 := ⟨_, fd_33_0, 0, U_33, rfl, rfl, T1_30.sz⟩
instance : FldT Try.prog 33 1 1 := ⟨_, fd_33_1, 0, U_33, rfl, rfl, T1_31.sz⟩
instance : FldT Try.prog 33 2 2 := ⟨_, fd_33_2, 0, U_33, rfl, rfl, T1_31.sz⟩
instance : FldT Try.prog 33 3 3 := ⟨_, fd_33_3, 0, U_33, rfl, rfl, T1_26.sz⟩
instance : C1 Try.prog 34 := ⟨T1_34⟩
instance : Elt Try.prog 34 (Int) (by infer_instance) 1 8 := ⟨⟨_, TI_34, rfl⟩, rfl⟩
instance : Ekc Try.prog 34 Int (ekInt U_34) := ⟨TI_34.zero, fun _ => rfl⟩
instance : C1 Try.prog 38 := ⟨T1_38⟩
instance : Elt Try.prog 38 (Sl Bool) (by infer_instance) 1 24 := ⟨⟨_, TI_38, rfl⟩, rfl⟩
instance : SlT Try.prog 38 4 := ⟨U_38⟩
instance : CA Try.prog 39 3 := ⟨TA_39⟩
instance : CA Try.prog 40 3 := ⟨TA_40⟩
instance : Elt Try.prog 40 (Palingslaw12Facts) (by infer_instance) 3 72 := ⟨⟨_, TI_40, rfl⟩, rfl⟩
instance : FldT Try.prog 40 0 0 := ⟨_, fd_40_0, 0, U_40, rfl, rfl, T1_26.sz⟩
instance : FldT Try.prog 40 1 1 := ⟨_, fd_40_1, 0, U_40, rfl, rfl, T1_38.sz⟩
instance : FldT Try.prog 40 2 2 := ⟨_, fd_40_2, 0, U_40, rfl, rfl, T1_38.sz⟩
instance : C1 Try.prog 42 := ⟨T1_42⟩
instance : Elt Try.prog 42 (Int) (by infer_instance) 1 8 := ⟨⟨_, TI_42, rfl⟩, rfl⟩
instance : Ekc Try.prog 42 Int (ekInt U_42) := ⟨TI_42.zero, fun _ => rfl⟩
instance : C1 Try.prog 44 := ⟨T1_44⟩
instance : Elt Try.prog 44 (Sl SsaBlock) (by infer_instance) 1 24 := ⟨⟨_, TI_44, rfl⟩, rfl⟩
instance : SlT Try.prog 44 55 := ⟨U_44⟩
instance : CA Try.prog 45 2 := ⟨TA_45⟩
instance : CA Try.prog 46 2 := ⟨TA_46⟩
instance : Elt Try.prog 46 (SsaFunc) (by infer_instance) 2 40 := ⟨⟨_, TI_46, rfl⟩, rfl⟩
instance : FldT Try.prog 46 0 0 := ⟨_, fd_46_0, 0, U_46, rfl, rfl, T1_9.sz⟩
instance : FldT Try.prog 46 1 1 := ⟨_, fd_46_1, 0, U_46, rfl, rfl, T1_44.sz⟩
instance : C1 Try.prog 47 := ⟨T1_47⟩
instance : Elt Try.prog 47 (Sl Int) (by infer_instance) 1 24 := ⟨⟨_, TI_47, rfl⟩, rfl⟩
instance : SlT Try.prog 47 3 := ⟨U_47⟩
instance : C1 Try.prog 48 := ⟨T1_48⟩
instance : Elt Try.prog 48 (Sl SsaIns) (by infer_instance) 1 24 := ⟨⟨_, TI_48, rfl⟩, rfl⟩
instance : SlT Try.prog 48 60 := ⟨U_48⟩
instance : C1 Try.prog 49 := ⟨T1_49⟩
instance : Elt Try.prog 49 (Int) (by infer_instance) 1 8 := ⟨⟨_, TI_49, rfl⟩, rfl⟩
instance : Ekc Try.prog 49 Int (ekInt U_49) := ⟨TI_49.zero, fun _ => rfl⟩
instance : C1 Try.prog 50 := ⟨T1_50⟩
instance : Elt Try.prog 50 (Sl SsaEdge) (by infer_instance) 1 24 := ⟨⟨_, TI_50, rfl⟩, rfl⟩
instance : SlT Try.prog 50 74 := ⟨U_50⟩
instance : C1 Try.prog 51 := ⟨T1_51⟩
instance : Elt Try.prog 51 (Int) (by infer_instance) 1 8 := ⟨⟨_, TI_51, rfl⟩, rfl⟩
instance : Ekc Try.prog 51 Int (ekInt U_51) := ⟨TI_51.zero, fun _ => rfl⟩
instance : CA Try.prog 52 4 := ⟨TA_52⟩
instance : CA Try.prog 53 4 := ⟨TA_53⟩
instance : Elt Try.prog 53 (SsaEnd) (by infer_instance) 4 48 := ⟨⟨_, TI_53, rfl⟩, rfl⟩
instance : FldT Try.prog 53 0 0 := ⟨_, fd_53_0, 0, U_53, rfl, rfl, T1_49.sz⟩
instance : FldT Try.prog 53 1 1 := ⟨_, fd_53_1, 0, U_53, rfl, rfl, T1_3.sz⟩
instance : FldT Try.prog 53 2 2 := ⟨_, fd_53_2, 0, U_53, rfl, rfl, T1_50.sz⟩
instance : FldT Try.prog 53 3 3 := ⟨_, fd_53_3, 0, U_53, rfl, rfl, T1_51.sz⟩
instance : CA Try.prog 54 6 := ⟨TA_54⟩
instance : CA Try.prog 55 6 := ⟨TA_55⟩
instance : Elt Try.prog 55 (SsaBlock) (by infer_instance) 6 96 := ⟨⟨_, TI_55, rfl⟩, rfl⟩
instance : FldT Try.prog 55 0 0 := ⟨_, fd_55_0, 0, U_55, rfl, rfl, T1_47.sz⟩
instance : FldT Try.prog 55 1 1 := ⟨_, fd_55_1, 0, U_55, rfl, rfl, T1_48.sz⟩
instance : FldT Try.prog 55 2 2 := ⟨_, fd_55_2, 3, U_55, rfl, rfl, TA_53.sz⟩
instance : C1 Try.prog 56 := ⟨T1_56⟩
instance : Elt Try.prog 56 (Mr) (by infer_instance) 1 8 := ⟨⟨_, TI_56, rfl⟩, rfl⟩
instance : MpT Try.prog 56 3 42 := ⟨U_56, U_3⟩
instance : C1 Try.prog 57 := ⟨T1_57⟩
instance : Elt Try.prog 57 (Int) (by infer_instance) 1 8 := ⟨⟨_, TI_57, rfl⟩, rfl⟩
instance : Ekc Try.prog 57 Int (ekInt U_57) := ⟨TI_57.zero, fun _ => rfl⟩
instance : C1 Try.prog 58 := ⟨T1_58⟩
instance : Elt Try.prog 58 (Int) (by infer_instance) 1 8 := ⟨⟨_, TI_58, rfl⟩, rfl⟩
instance : Ekc Try.prog 58 Int (ekInt U_58) := ⟨TI_58.zero, fun _ => rfl⟩
instance : CA Try.prog 59 7 := ⟨TA_59⟩
instance : CA Try.prog 60 7 := ⟨TA_60⟩
instance : Elt Try.prog 60 (SsaIns) (by infer_instance) 7 72 := ⟨⟨_, TI_60, rfl⟩, rfl⟩
instance : FldT Try.prog 60 0 0 := ⟨_, fd_60_0, 0, U_60, rfl, rfl, T1_57.sz⟩
instance : FldT Try.prog 60 1 1 := ⟨_, fd_60_1, 0, U_60, rfl, rfl, T1_3.sz⟩
instance : FldT Try.prog 60 2 2 := ⟨_, fd_60_2, 0, U_60, rfl, rfl, T1_47.sz⟩
instance : FldT Try.prog 60 3 3 := ⟨_, fd_60_3, 0, U_60, rfl, rfl, T1_2.sz⟩
instance : FldT Try.prog 60 4 4 := ⟨_, fd_60_4, 0, U_60, rfl, rfl, T1_58.sz⟩
instance : FldT Try.prog 60 5 5 := ⟨_, fd_60_5, 0, U_60, rfl, rfl, T1_3.sz⟩
instance : FldT Try.prog 60 6 6 := ⟨_, fd_60_6, 0, U_60, rfl, rfl, T1_3.sz⟩
instance : C1 Try.prog 64 := ⟨T1_64⟩
instance : Elt Try.prog 64 (Int) (by infer_instance) 1 8 := ⟨⟨_, TI_64, rfl⟩, rfl⟩
instance : Ekc Try.prog 64 Int (ekInt U_64) := ⟨TI_64.zero, fun _ => rfl⟩
instance : CA Try.prog 65 3 := ⟨TA_65⟩
instance : CA Try.prog 66 3 := ⟨TA_66⟩
instance : Elt Try.prog 66 (SsaArray) (by infer_instance) 3 32 := ⟨⟨_, TI_66, rfl⟩, rfl⟩
instance : FldT Try.prog 66 0 0 := ⟨_, fd_66_0, 0, U_66, rfl, rfl, T1_9.sz⟩
instance : FldT Try.prog 66 1 1 := ⟨_, fd_66_1, 0, U_66, rfl, rfl, T1_64.sz⟩
instance : FldT Try.prog 66 2 2 := ⟨_, fd_66_2, 0, U_66, rfl, rfl, T1_3.sz⟩
instance : C1 Try.prog 67 := ⟨T1_67⟩
instance : Elt Try.prog 67 (Sl TaintSink) (by infer_instance) 1 24 := ⟨⟨_, TI_67, rfl⟩, rfl⟩
instance : SlT Try.prog 67 69 := ⟨U_67⟩
instance : CA Try.prog 68 5 := ⟨TA_68⟩
instance : CA Try.prog 69 5 := ⟨TA_69⟩
instance : Elt Try.prog 69 (TaintSink) (by infer_instance) 5 40 := ⟨⟨_, TI_69, rfl⟩, rfl⟩
instance : FldT Try.prog 69 0 0 := ⟨_, fd_69_0, 0, U_69, rfl, rfl, T1_3.sz⟩
instance : FldT Try.prog 69 1 1 := ⟨_, fd_69_1, 0, U_69, rfl, rfl, T1_3.sz⟩
instance : FldT Try.prog 69 2 2 := ⟨_, fd_69_2, 0, U_69, rfl, rfl, T1_3.sz⟩
instance : FldT Try.prog 69 3 3 := ⟨_, fd_69_3, 0, U_69, rfl, rfl, T1_3.sz⟩
instance : FldT Try.prog 69 4 4 := ⟨_, fd_69_4, 0, U_69, rfl, rfl, T1_42.sz⟩
instance : CA Try.prog 73 2 := ⟨TA_73⟩
instance : CA Try.prog 74 2 := ⟨TA_74⟩
instance : Elt Try.prog 74 (SsaEdge) (by infer_instance) 2 32 := ⟨⟨_, TI_74, rfl⟩, rfl⟩
instance : FldT Try.prog 74 0 0 := ⟨_, fd_74_0, 0, U_74, rfl, rfl, T1_3.sz⟩
instance : FldT Try.prog 74 1 1 := ⟨_, fd_74_1, 0, U_74, rfl, rfl, T1_47.sz⟩
instance : C1 Try.prog 75 := ⟨T1_75⟩
instance : Elt Try.prog 75 (Pr) (by infer_instance) 1 8 := ⟨⟨_, TI_75, rfl⟩, rfl⟩
instance : PtT Try.prog 75 := ⟨_, U_75⟩
instance : CA Try.prog 77 9 := ⟨TA_77⟩
instance : CA Try.prog 78 9 := ⟨TA_78⟩
instance : Elt Try.prog 78 (TaintSolver) (by infer_instance) 9 184 := ⟨⟨_, TI_78, rfl⟩, rfl⟩
instance : FldT Try.prog 78 0 0 := ⟨_, fd_78_0, 2, U_78, rfl, rfl, TA_25.sz⟩
instance : FldT Try.prog 78 1 3 := ⟨_, fd_78_1, 3, U_78, rfl, rfl, TA_33.sz⟩
instance : FldT Try.prog 78 2 7 := ⟨_, fd_78_2, 0, U_78, rfl, rfl, T1_38.sz⟩
instance : FldT Try.prog 78 3 8 := ⟨_, fd_78_3, 0, U_78, rfl, rfl, T1_4.sz⟩
instance : C1 Try.prog 95 := ⟨T1_95⟩
instance : Elt Try.prog 95 (Pr) (by infer_instance) 1 8 := ⟨⟨_, TI_95, rfl⟩, rfl⟩
instance : PtT Try.prog 95 := ⟨_, U_95⟩
instance : C1 Try.prog 98 := ⟨T1_98⟩
instance : Elt Try.prog 98 (Mr) (by infer_instance) 1 8 := ⟨⟨_, TI_98, rfl⟩, rfl⟩
instance : MpT Try.prog 98 49 3 := ⟨U_98, U_49⟩
instance : C1 Try.prog 119 := ⟨T1_119⟩
instance : Elt Try.prog 119 (Iof .u32) (by infer_instance) 1 4 := ⟨⟨_, TI_119, rfl⟩, rfl⟩
instance : C1 Try.prog 123 := ⟨T1_123⟩
instance : Elt Try.prog 123 (Pr) (by infer_instance) 1 8 := ⟨⟨_, TI_123, rfl⟩, rfl⟩
instance : PtT Try.prog 123 := ⟨_, U_123⟩
instance : Opn Try.prog 2 (Int) (by infer_instance) (by infer_instance) := opn_int U_2
instance : Opn Try.prog 3 (Int) (by infer_instance) (by infer_instance) := opn_int U_3
instance : Opn Try.prog 4 (Bool) (by infer_instance) (by infer_instance) := opn_bool U_4
instance : Opn Try.prog 5 (Iof .u8) (by infer_instance) (by infer_instance) := opn_iof U_5
instance : Opn Try.prog 9 (Str) (by infer_instance) (by infer_instance) := opn_str U_9
instance : Opn Try.prog 12 (Iof .u64) (by infer_instance) (by infer_instance) := opn_iof U_12
instance : Opn Try.prog 21 (Iof .i32) (by infer_instance) (by infer_instance) := opn_iof U_21
instance : Opn Try.prog 64 (Int) (by infer_instance) (by infer_instance) := opn_int U_64
instance : Opn Try.prog 66 SsaArray (by infer_instance) (by infer_instance) := ⟨fun {H enc W fuel cs x} h => by
  obtain ⟨ys, n', _, _, hlen, hyl, hfd⟩ := DataW.trod_struct U_66 h
  have hlen : cs.length = 3 := hlen.trans (by kernel_rfl)
  have hyl : ys.length = 3 := hyl
  have h0 : DataW.trod enc Try.prog W 0 (fun _ => true) true n' 9 ((cs.drop 0).take (Try.prog.cellsOf 9)) = some (ys[0]'(by rw [hyl]; decide)) := (hfd 0 fd_66_0 rfl).trans (List.getElem?_eq_getElem _)
  obtain ⟨u0, e0, r0⟩ := (inferInstance : Opn Try.prog 9 (Str) _ _).opn h0
  rw [show Try.prog.cellsOf 9 = 1 by kernel_rfl] at e0
  have h1 : DataW.trod enc Try.prog W 0 (fun _ => true) true n' 64 ((cs.drop 1).take (Try.prog.cellsOf 64)) = some (ys[1]'(by rw [hyl]; decide)) := (hfd 1 fd_66_1 rfl).trans (List.getElem?_eq_getElem _)
  obtain ⟨u1, e1, r1⟩ := (inferInstance : Opn Try.prog 64 (Int) _ _).opn h1
  rw [show Try.prog.cellsOf 64 = 1 by kernel_rfl] at e1
  have h2 : DataW.trod enc Try.prog W 0 (fun _ => true) true n' 3 ((cs.drop 2).take (Try.prog.cellsOf 3)) = some (ys[2]'(by rw [hyl]; decide)) := (hfd 2 fd_66_2 rfl).trans (List.getElem?_eq_getElem _)
  obtain ⟨u2, e2, r2⟩ := (inferInstance : Opn Try.prog 3 (Int) _ _).opn h2
  rw [show Try.prog.cellsOf 3 = 1 by kernel_rfl] at e2
  refine ⟨⟨u0, u1, u2⟩, ?_, r0, r1, r2⟩
  have hcs : cs = (cs.drop 0).take 1 ++ ((cs.drop 1).take 1 ++ ((cs.drop 2).take 1 ++ (cs.drop 3))) := by
    conv => lhs; rw [← List.drop_zero (l := cs)]
    conv => lhs; rw [cut_drop cs 0 1]
    conv => lhs; arg 2; rw [cut_drop cs 1 1]
    conv => lhs; arg 2; arg 2; rw [cut_drop cs 2 1]
  rw [show cs.drop 3 = [] from List.drop_eq_nil_of_le (by omega)] at hcs
  refine hcs.trans ?_
  rw [e0, e1, e2]; rfl⟩
instance : Opn Try.prog 22 (Sl SsaArray) (by infer_instance) (by infer_instance) := opn_slice U_22 inferInstance (by kernel_rfl)
instance : Opn Try.prog 47 (Sl Int) (by infer_instance) (by infer_instance) := opn_slice U_47 inferInstance (by kernel_rfl)
instance : Opn Try.prog 57 (Int) (by infer_instance) (by infer_instance) := opn_int U_57
instance : Opn Try.prog 58 (Int) (by infer_instance) (by infer_instance) := opn_int U_58
instance : Opn Try.prog 60 SsaIns (by infer_instance) (by infer_instance) := ⟨fun {H enc W fuel cs x} h => by
  obtain ⟨ys, n', _, _, hlen, hyl, hfd⟩ := DataW.trod_struct U_60 h
  have hlen : cs.length = 7 := hlen.trans (by kernel_rfl)
  have hyl : ys.length = 7 := hyl
  have h0 : DataW.trod enc Try.prog W 0 (fun _ => true) true n' 57 ((cs.drop 0).take (Try.prog.cellsOf 57)) = some (ys[0]'(by rw [hyl]; decide)) := (hfd 0 fd_60_0 rfl).trans (List.getElem?_eq_getElem _)
  obtain ⟨u0, e0, r0⟩ := (inferInstance : Opn Try.prog 57 (Int) _ _).opn h0
  rw [show Try.prog.cellsOf 57 = 1 by kernel_rfl] at e0
  have h1 : DataW.trod enc Try.prog W 0 (fun _ => true) true n' 3 ((cs.drop 1).take (Try.prog.cellsOf 3)) = some (ys[1]'(by rw [hyl]; decide)) := (hfd 1 fd_60_1 rfl).trans (List.getElem?_eq_getElem _)
  obtain ⟨u1, e1, r1⟩ := (inferInstance : Opn Try.prog 3 (Int) _ _).opn h1
  rw [show Try.prog.cellsOf 3 = 1 by kernel_rfl] at e1
  have h2 : DataW.trod enc Try.prog W 0 (fun _ => true) true n' 47 ((cs.drop 2).take (Try.prog.cellsOf 47)) = some (ys[2]'(by rw [hyl]; decide)) := (hfd 2 fd_60_2 rfl).trans (List.getElem?_eq_getElem _)
  obtain ⟨u2, e2, r2⟩ := (inferInstance : Opn Try.prog 47 (Sl Int) _ _).opn h2
  rw [show Try.prog.cellsOf 47 = 1 by kernel_rfl] at e2
  have h3 : DataW.trod enc Try.prog W 0 (fun _ => true) true n' 2 ((cs.drop 3).take (Try.prog.cellsOf 2)) = some (ys[3]'(by rw [hyl]; decide)) := (hfd 3 fd_60_3 rfl).trans (List.getElem?_eq_getElem _)
  obtain ⟨u3, e3, r3⟩ := (inferInstance : Opn Try.prog 2 (Int) _ _).opn h3
  rw [show Try.prog.cellsOf 2 = 1 by kernel_rfl] at e3
  have h4 : DataW.trod enc Try.prog W 0 (fun _ => true) true n' 58 ((cs.drop 4).take (Try.prog.cellsOf 58)) = some (ys[4]'(by rw [hyl]; decide)) := (hfd 4 fd_60_4 rfl).trans (List.getElem?_eq_getElem _)
  obtain ⟨u4, e4, r4⟩ := (inferInstance : Opn Try.prog 58 (Int) _ _).opn h4
  rw [show Try.prog.cellsOf 58 = 1 by kernel_rfl] at e4
  have h5 : DataW.trod enc Try.prog W 0 (fun _ => true) true n' 3 ((cs.drop 5).take (Try.prog.cellsOf 3)) = some (ys[5]'(by rw [hyl]; decide)) := (hfd 5 fd_60_5 rfl).trans (List.getElem?_eq_getElem _)
  obtain ⟨u5, e5, r5⟩ := (inferInstance : Opn Try.prog 3 (Int) _ _).opn h5
  rw [show Try.prog.cellsOf 3 = 1 by kernel_rfl] at e5
  have h6 : DataW.trod enc Try.prog W 0 (fun _ => true) true n' 3 ((cs.drop 6).take (Try.prog.cellsOf 3)) = some (ys[6]'(by rw [hyl]; decide)) := (hfd 6 fd_60_6 rfl).trans (List.getElem?_eq_getElem _)
  obtain ⟨u6, e6, r6⟩ := (inferInstance : Opn Try.prog 3 (Int) _ _).opn h6
  rw [show Try.prog.cellsOf 3 = 1 by kernel_rfl] at e6
  refine ⟨⟨u0, u1, u2, u3, u4, u5, u6⟩, ?_, r0, r1, r2, r3, r4, r5, r6⟩
  have hcs : cs = (cs.drop 0).take 1 ++ ((cs.drop 1).take 1 ++ ((cs.drop 2).take 1 ++ ((cs.drop 3).take 1 ++ ((cs.drop 4).take 1 ++ ((cs.drop 5).take 1 ++ ((cs.drop 6).take 1 ++ (cs.drop 7))))))) := by
    conv => lhs; rw [← List.drop_zero (l := cs)]
    conv => lhs; rw [cut_drop cs 0 1]
    conv => lhs; arg 2; rw [cut_drop cs 1 1]
    conv => lhs; arg 2; arg 2; rw [cut_drop cs 2 1]
    conv => lhs; arg 2; arg 2; arg 2; rw [cut_drop cs 3 1]
    conv => lhs; arg 2; arg 2; arg 2; arg 2; rw [cut_drop cs 4 1]
    conv => lhs; arg 2; arg 2; arg 2; arg 2; arg 2; rw [cut_drop cs 5 1]
    conv => lhs; arg 2; arg 2; arg 2; arg 2; arg 2; arg 2; rw [cut_drop cs 6 1]
  rw [show cs.drop 7 = [] from List.drop_eq_nil_of_le (by omega)] at hcs
  refine hcs.trans ?_
  rw [e0, e1, e2, e3, e4, e5, e6]; rfl⟩
instance : Opn Try.prog 48 (Sl SsaIns) (by infer_instance) (by infer_instance) := opn_slice U_48 inferInstance (by kernel_rfl)
instance : Opn Try.prog 49 (Int) (by infer_instance) (by infer_instance) := opn_int U_49
instance : Opn Try.prog 74 SsaEdge (by infer_instance) (by infer_instance) := ⟨fun {H enc W fuel cs x} h => by
  obtain ⟨ys, n', _, _, hlen, hyl, hfd⟩ := DataW.trod_struct U_74 h
  have hlen : cs.length = 2 := hlen.trans (by kernel_rfl)
  have hyl : ys.length = 2 := hyl
  have h0 : DataW.trod enc Try.prog W 0 (fun _ => true) true n' 3 ((cs.drop 0).take (Try.prog.cellsOf 3)) = some (ys[0]'(by rw [hyl]; decide)) := (hfd 0 fd_74_0 rfl).trans (List.getElem?_eq_getElem _)
  obtain ⟨u0, e0, r0⟩ := (inferInstance : Opn Try.prog 3 (Int) _ _).opn h0
  rw [show Try.prog.cellsOf 3 = 1 by kernel_rfl] at e0
  have h1 : DataW.trod enc Try.prog W 0 (fun _ => true) true n' 47 ((cs.drop 1).take (Try.prog.cellsOf 47)) = some (ys[1]'(by rw [hyl]; decide)) := (hfd 1 fd_74_1 rfl).trans (List.getElem?_eq_getElem _)
  obtain ⟨u1, e1, r1⟩ := (inferInstance : Opn Try.prog 47 (Sl Int) _ _).opn h1
  rw [show Try.prog.cellsOf 47 = 1 by kernel_rfl] at e1
  refine ⟨⟨u0, u1⟩, ?_, r0, r1⟩
  have hcs : cs = (cs.drop 0).take 1 ++ ((cs.drop 1).take 1 ++ (cs.drop 2)) := by
    conv => lhs; rw [← List.drop_zero (l := cs)]
    conv => lhs; rw [cut_drop cs 0 1]
    conv => lhs; arg 2; rw [cut_drop cs 1 1]
  rw [show cs.drop 2 = [] from List.drop_eq_nil_of_le (by omega)] at hcs
  refine hcs.trans ?_
  rw [e0, e1]; rfl⟩
instance : Opn Try.prog 50 (Sl SsaEdge) (by infer_instance) (by infer_instance) := opn_slice U_50 inferInstance (by kernel_rfl)
instance : Opn Try.prog 51 (Int) (by infer_instance) (by infer_instance) := opn_int U_51
instance : Opn Try.prog 53 SsaEnd (by infer_instance) (by infer_instance) := ⟨fun {H enc W fuel cs x} h => by
  obtain ⟨ys, n', _, _, hlen, hyl, hfd⟩ := DataW.trod_struct U_53 h
  have hlen : cs.length = 4 := hlen.trans (by kernel_rfl)
  have hyl : ys.length = 4 := hyl
  have h0 : DataW.trod enc Try.prog W 0 (fun _ => true) true n' 49 ((cs.drop 0).take (Try.prog.cellsOf 49)) = some (ys[0]'(by rw [hyl]; decide)) := (hfd 0 fd_53_0 rfl).trans (List.getElem?_eq_getElem _)
  obtain ⟨u0, e0, r0⟩ := (inferInstance : Opn Try.prog 49 (Int) _ _).opn h0
  rw [show Try.prog.cellsOf 49 = 1 by kernel_rfl] at e0
  have h1 : DataW.trod enc Try.prog W 0 (fun _ => true) true n' 3 ((cs.drop 1).take (Try.prog.cellsOf 3)) = some (ys[1]'(by rw [hyl]; decide)) := (hfd 1 fd_53_1 rfl).trans (List.getElem?_eq_getElem _)
  obtain ⟨u1, e1, r1⟩ := (inferInstance : Opn Try.prog 3 (Int) _ _).opn h1
  rw [show Try.prog.cellsOf 3 = 1 by kernel_rfl] at e1
  have h2 : DataW.trod enc Try.prog W 0 (fun _ => true) true n' 50 ((cs.drop 2).take (Try.prog.cellsOf 50)) = some (ys[2]'(by rw [hyl]; decide)) := (hfd 2 fd_53_2 rfl).trans (List.getElem?_eq_getElem _)
  obtain ⟨u2, e2, r2⟩ := (inferInstance : Opn Try.prog 50 (Sl SsaEdge) _ _).opn h2
  rw [show Try.prog.cellsOf 50 = 1 by kernel_rfl] at e2
  have h3 : DataW.trod enc Try.prog W 0 (fun _ => true) true n' 51 ((cs.drop 3).take (Try.prog.cellsOf 51)) = some (ys[3]'(by rw [hyl]; decide)) := (hfd 3 fd_53_3 rfl).trans (List.getElem?_eq_getElem _)
  obtain ⟨u3, e3, r3⟩ := (inferInstance : Opn Try.prog 51 (Int) _ _).opn h3
  rw [show Try.prog.cellsOf 51 = 1 by kernel_rfl] at e3
  refine ⟨⟨u0, u1, u2, u3⟩, ?_, r0, r1, r2, r3⟩
  have hcs : cs = (cs.drop 0).take 1 ++ ((cs.drop 1).take 1 ++ ((cs.drop 2).take 1 ++ ((cs.drop 3).take 1 ++ (cs.drop 4)))) := by
    conv => lhs; rw [← List.drop_zero (l := cs)]
    conv => lhs; rw [cut_drop cs 0 1]
    conv => lhs; arg 2; rw [cut_drop cs 1 1]
    conv => lhs; arg 2; arg 2; rw [cut_drop cs 2 1]
    conv => lhs; arg 2; arg 2; arg 2; rw [cut_drop cs 3 1]
  rw [show cs.drop 4 = [] from List.drop_eq_nil_of_le (by omega)] at hcs
  refine hcs.trans ?_
  rw [e0, e1, e2, e3]; rfl⟩
instance : Opn Try.prog 55 SsaBlock (by infer_instance) (by infer_instance) := ⟨fun {H enc W fuel cs x} h => by
  obtain ⟨ys, n', _, _, hlen, hyl, hfd⟩ := DataW.trod_struct U_55 h
  have hlen : cs.length = 6 := hlen.trans (by kernel_rfl)
  have hyl : ys.length = 3 := hyl
  have h0 : DataW.trod enc Try.prog W 0 (fun _ => true) true n' 47 ((cs.drop 0).take (Try.prog.cellsOf 47)) = some (ys[0]'(by rw [hyl]; decide)) := (hfd 0 fd_55_0 rfl).trans (List.getElem?_eq_getElem _)
  obtain ⟨u0, e0, r0⟩ := (inferInstance : Opn Try.prog 47 (Sl Int) _ _).opn h0
  rw [show Try.prog.cellsOf 47 = 1 by kernel_rfl] at e0
  have h1 : DataW.trod enc Try.prog W 0 (fun _ => true) true n' 48 ((cs.drop 1).take (Try.prog.cellsOf 48)) = some (ys[1]'(by rw [hyl]; decide)) := (hfd 1 fd_55_1 rfl).trans (List.getElem?_eq_getElem _)
  obtain ⟨u1, e1, r1⟩ := (inferInstance : Opn Try.prog 48 (Sl SsaIns) _ _).opn h1
  rw [show Try.prog.cellsOf 48 = 1 by kernel_rfl] at e1
  have h2 : DataW.trod enc Try.prog W 0 (fun _ => true) true n' 53 ((cs.drop 2).take (Try.prog.cellsOf 53)) = some (ys[2]'(by rw [hyl]; decide)) := (hfd 2 fd_55_2 rfl).trans (List.getElem?_eq_getElem _)
  obtain ⟨u2, e2, r2⟩ := (inferInstance : Opn Try.prog 53 (SsaEnd) _ _).opn h2
  rw [show Try.prog.cellsOf 53 = 4 by kernel_rfl] at e2
  refine ⟨⟨u0, u1, u2⟩, ?_, r0, r1, r2⟩
  have hcs : cs = (cs.drop 0).take 1 ++ ((cs.drop 1).take 1 ++ ((cs.drop 2).take 4 ++ (cs.drop 6))) := by
    conv => lhs; rw [← List.drop_zero (l := cs)]
    conv => lhs; rw [cut_drop cs 0 1]
    conv => lhs; arg 2; rw [cut_drop cs 1 1]
    conv => lhs; arg 2; arg 2; rw [cut_drop cs 2 4]
  rw [show cs.drop 6 = [] from List.drop_eq_nil_of_le (by omega)] at hcs
  refine hcs.trans ?_
  rw [e0, e1, e2]; rfl⟩
instance : Opn Try.prog 44 (Sl SsaBlock) (by infer_instance) (by infer_instance) := opn_slice U_44 inferInstance (by kernel_rfl)
instance : Opn Try.prog 46 SsaFunc (by infer_instance) (by infer_instance) := ⟨fun {H enc W fuel cs x} h => by
  obtain ⟨ys, n', _, _, hlen, hyl, hfd⟩ := DataW.trod_struct U_46 h
  have hlen : cs.length = 2 := hlen.trans (by kernel_rfl)
  have hyl : ys.length = 2 := hyl
  have h0 : DataW.trod enc Try.prog W 0 (fun _ => true) true n' 9 ((cs.drop 0).take (Try.prog.cellsOf 9)) = some (ys[0]'(by rw [hyl]; decide)) := (hfd 0 fd_46_0 rfl).trans (List.getElem?_eq_getElem _)
  obtain ⟨u0, e0, r0⟩ := (inferInstance : Opn Try.prog 9 (Str) _ _).opn h0
  rw [show Try.prog.cellsOf 9 = 1 by kernel_rfl] at e0
  have h1 : DataW.trod enc Try.prog W 0 (fun _ => true) true n' 44 ((cs.drop 1).take (Try.prog.cellsOf 44)) = some (ys[1]'(by rw [hyl]; decide)) := (hfd 1 fd_46_1 rfl).trans (List.getElem?_eq_getElem _)
  obtain ⟨u1, e1, r1⟩ := (inferInstance : Opn Try.prog 44 (Sl SsaBlock) _ _).opn h1
  rw [show Try.prog.cellsOf 44 = 1 by kernel_rfl] at e1
  refine ⟨⟨u0, u1⟩, ?_, r0, r1⟩
  have hcs : cs = (cs.drop 0).take 1 ++ ((cs.drop 1).take 1 ++ (cs.drop 2)) := by
    conv => lhs; rw [← List.drop_zero (l := cs)]
    conv => lhs; rw [cut_drop cs 0 1]
    conv => lhs; arg 2; rw [cut_drop cs 1 1]
  rw [show cs.drop 2 = [] from List.drop_eq_nil_of_le (by omega)] at hcs
  refine hcs.trans ?_
  rw [e0, e1]; rfl⟩
instance : Opn Try.prog 23 (Sl SsaFunc) (by infer_instance) (by infer_instance) := opn_slice U_23 inferInstance (by kernel_rfl)
instance : Opn Try.prog 25 SsaProg (by infer_instance) (by infer_instance) := ⟨fun {H enc W fuel cs x} h => by
  obtain ⟨ys, n', _, _, hlen, hyl, hfd⟩ := DataW.trod_struct U_25 h
  have hlen : cs.length = 3 := hlen.trans (by kernel_rfl)
  have hyl : ys.length = 3 := hyl
  have h0 : DataW.trod enc Try.prog W 0 (fun _ => true) true n' 22 ((cs.drop 0).take (Try.prog.cellsOf 22)) = some (ys[0]'(by rw [hyl]; decide)) := (hfd 0 fd_25_0 rfl).trans (List.getElem?_eq_getElem _)
  obtain ⟨u0, e0, r0⟩ := (inferInstance : Opn Try.prog 22 (Sl SsaArray) _ _).opn h0
  rw [show Try.prog.cellsOf 22 = 1 by kernel_rfl] at e0
  have h1 : DataW.trod enc Try.prog W 0 (fun _ => true) true n' 23 ((cs.drop 1).take (Try.prog.cellsOf 23)) = some (ys[1]'(by rw [hyl]; decide)) := (hfd 1 fd_25_1 rfl).trans (List.getElem?_eq_getElem _)
  obtain ⟨u1, e1, r1⟩ := (inferInstance : Opn Try.prog 23 (Sl SsaFunc) _ _).opn h1
  rw [show Try.prog.cellsOf 23 = 1 by kernel_rfl] at e1
  have h2 : DataW.trod enc Try.prog W 0 (fun _ => true) true n' 3 ((cs.drop 2).take (Try.prog.cellsOf 3)) = some (ys[2]'(by rw [hyl]; decide)) := (hfd 2 fd_25_2 rfl).trans (List.getElem?_eq_getElem _)
  obtain ⟨u2, e2, r2⟩ := (inferInstance : Opn Try.prog 3 (Int) _ _).opn h2
  rw [show Try.prog.cellsOf 3 = 1 by kernel_rfl] at e2
  refine ⟨⟨u0, u1, u2⟩, ?_, r0, r1, r2⟩
  have hcs : cs = (cs.drop 0).take 1 ++ ((cs.drop 1).take 1 ++ ((cs.drop 2).take 1 ++ (cs.drop 3))) := by
    conv => lhs; rw [← List.drop_zero (l := cs)]
    conv => lhs; rw [cut_drop cs 0 1]
    conv => lhs; arg 2; rw [cut_drop cs 1 1]
    conv => lhs; arg 2; arg 2; rw [cut_drop cs 2 1]
  rw [show cs.drop 3 = [] from List.drop_eq_nil_of_le (by omega)] at hcs
  refine hcs.trans ?_
  rw [e0, e1, e2]; rfl⟩
instance : Opn Try.prog 42 (Int) (by infer_instance) (by infer_instance) := opn_int U_42
instance : Opn Try.prog 31 (Sl Int) (by infer_instance) (by infer_instance) := opn_slice U_31 inferInstance (by kernel_rfl)
instance : Opn Try.prog 34 (Int) (by infer_instance) (by infer_instance) := opn_int U_34
instance : Opn Try.prog 38 (Sl Bool) (by infer_instance) (by infer_instance) := opn_slice U_38 inferInstance (by kernel_rfl)
instance : Opn Try.prog 69 TaintSink (by infer_instance) (by infer_instance) := ⟨fun {H enc W fuel cs x} h => by
  obtain ⟨ys, n', _, _, hlen, hyl, hfd⟩ := DataW.trod_struct U_69 h
  have hlen : cs.length = 5 := hlen.trans (by kernel_rfl)
  have hyl : ys.length = 5 := hyl
  have h0 : DataW.trod enc Try.prog W 0 (fun _ => true) true n' 3 ((cs.drop 0).take (Try.prog.cellsOf 3)) = some (ys[0]'(by rw [hyl]; decide)) := (hfd 0 fd_69_0 rfl).trans (List.getElem?_eq_getElem _)
  obtain ⟨u0, e0, r0⟩ := (inferInstance : Opn Try.prog 3 (Int) _ _).opn h0
  rw [show Try.prog.cellsOf 3 = 1 by kernel_rfl] at e0
  have h1 : DataW.trod enc Try.prog W 0 (fun _ => true) true n' 3 ((cs.drop 1).take (Try.prog.cellsOf 3)) = some (ys[1]'(by rw [hyl]; decide)) := (hfd 1 fd_69_1 rfl).trans (List.getElem?_eq_getElem _)
  obtain ⟨u1, e1, r1⟩ := (inferInstance : Opn Try.prog 3 (Int) _ _).opn h1
  rw [show Try.prog.cellsOf 3 = 1 by kernel_rfl] at e1
  have h2 : DataW.trod enc Try.prog W 0 (fun _ => true) true n' 3 ((cs.drop 2).take (Try.prog.cellsOf 3)) = some (ys[2]'(by rw [hyl]; decide)) := (hfd 2 fd_69_2 rfl).trans (List.getElem?_eq_getElem _)
  obtain ⟨u2, e2, r2⟩ := (inferInstance : Opn Try.prog 3 (Int) _ _).opn h2
  rw [show Try.prog.cellsOf 3 = 1 by kernel_rfl] at e2
  have h3 : DataW.trod enc Try.prog W 0 (fun _ => true) true n' 3 ((cs.drop 3).take (Try.prog.cellsOf 3)) = some (ys[3]'(by rw [hyl]; decide)) := (hfd 3 fd_69_3 rfl).trans (List.getElem?_eq_getElem _)
  obtain ⟨u3, e3, r3⟩ := (inferInstance : Opn Try.prog 3 (Int) _ _).opn h3
  rw [show Try.prog.cellsOf 3 = 1 by kernel_rfl] at e3
  have h4 : DataW.trod enc Try.prog W 0 (fun _ => true) true n' 42 ((cs.drop 4).take (Try.prog.cellsOf 42)) = some (ys[4]'(by rw [hyl]; decide)) := (hfd 4 fd_69_4 rfl).trans (List.getElem?_eq_getElem _)
  obtain ⟨u4, e4, r4⟩ := (inferInstance : Opn Try.prog 42 (Int) _ _).opn h4
  rw [show Try.prog.cellsOf 42 = 1 by kernel_rfl] at e4
  refine ⟨⟨u0, u1, u2, u3, u4⟩, ?_, r0, r1, r2, r3, r4⟩
  have hcs : cs = (cs.drop 0).take 1 ++ ((cs.drop 1).take 1 ++ ((cs.drop 2).take 1 ++ ((cs.drop 3).take 1 ++ ((cs.drop 4).take 1 ++ (cs.drop 5))))) := by
    conv => lhs; rw [← List.drop_zero (l := cs)]
    conv => lhs; rw [cut_drop cs 0 1]
    conv => lhs; arg 2; rw [cut_drop cs 1 1]
    conv => lhs; arg 2; arg 2; rw [cut_drop cs 2 1]
    conv => lhs; arg 2; arg 2; arg 2; rw [cut_drop cs 3 1]
    conv => lhs; arg 2; arg 2; arg 2; arg 2; rw [cut_drop cs 4 1]
  rw [show cs.drop 5 = [] from List.drop_eq_nil_of_le (by omega)] at hcs
  refine hcs.trans ?_
  rw [e0, e1, e2, e3, e4]; rfl⟩
instance : Opn Try.prog 67 (Sl TaintSink) (by infer_instance) (by infer_instance) := opn_slice U_67 inferInstance (by kernel_rfl)
instance : Opn Try.prog 119 (Iof .u32) (by infer_instance) (by infer_instance) := opn_iof U_119
theorem foI : Try.prog.follows .mixedOrders = true := by kernel_rfl
instance : IsFc Try.prog 3 := ⟨_, F_3⟩
instance : IsFc Try.prog 4 := ⟨_, F_4⟩
instance : IsFc Try.prog 5 := ⟨_, F_5⟩
instance : IsFc Try.prog 6 := ⟨_, F_6⟩
instance : IsFc Try.prog 7 := ⟨_, F_7⟩
instance : IsFc Try.prog 8 := ⟨_, F_8⟩
instance : IsFc Try.prog 9 := ⟨_, F_9⟩
instance : IsFc Try.prog 10 := ⟨_, F_10⟩
instance : IsFc Try.prog 11 := ⟨_, F_11⟩
instance : IsFc Try.prog 12 := ⟨_, F_12⟩
instance : IsFc Try.prog 13 := ⟨_, F_13⟩
instance : IsFc Try.prog 14 := ⟨_, F_14⟩
instance : IsFc Try.prog 15 := ⟨_, F_15⟩
instance : IsFc Try.prog 16 := ⟨_, F_16⟩
instance : IsFc Try.prog 17 := ⟨_, F_17⟩
instance : IsFc Try.prog 18 := ⟨_, F_18⟩
instance : IsFc Try.prog 19 := ⟨_, F_19⟩
instance : IsFc Try.prog 20 := ⟨_, F_20⟩
instance : IsFc Try.prog 21 := ⟨_, F_21⟩
instance : IsFc Try.prog 22 := ⟨_, F_22⟩
instance : IsFc Try.prog 23 := ⟨_, F_23⟩
instance : IsFc Try.prog 24 := ⟨_, F_24⟩
instance : IsFc Try.prog 25 := ⟨_, F_25⟩
instance : IsFc Try.prog 26 := ⟨_, F_26⟩
instance : IsFc Try.prog 27 := ⟨_, F_27⟩
instance : IsFc Try.prog 28 := ⟨_, F_28⟩
instance : IsFc Try.prog 29 := ⟨_, F_29⟩
instance : IsFc Try.prog 30 := ⟨_, F_30⟩
instance : IsFc Try.prog 31 := ⟨_, F_31⟩
instance : IsFc Try.prog 32 := ⟨_, F_32⟩
instance : IsFc Try.prog 33 := ⟨_, F_33⟩
instance : IsFc Try.prog 34 := ⟨_, F_34⟩
instance : IsFc Try.prog 35 := ⟨_, F_35⟩
instance : IsFc Try.prog 36 := ⟨_, F_36⟩
instance : IsFc Try.prog 37 := ⟨_, F_37⟩
instance : IsFc Try.prog 38 := ⟨_, F_38⟩
instance : IsFc Try.prog 39 := ⟨_, F_39⟩
instance : IsFc Try.prog 40 := ⟨_, F_40⟩
instance : IsFc Try.prog 41 := ⟨_, F_41⟩
instance : IsFc Try.prog 42 := ⟨_, F_42⟩
instance : IsFc Try.prog 43 := ⟨_, F_43⟩
instance : IsFc Try.prog 44 := ⟨_, F_44⟩
instance : IsFc Try.prog 45 := ⟨_, F_45⟩
instance : IsFc Try.prog 46 := ⟨_, F_46⟩
instance : IsFc Try.prog 47 := ⟨_, F_47⟩
instance : IsFc Try.prog 48 := ⟨_, F_48⟩
instance : IsFc Try.prog 49 := ⟨_, F_49⟩
instance : IsFc Try.prog 50 := ⟨_, F_50⟩
instance : IsFc Try.prog 51 := ⟨_, F_51⟩
instance : IsFc Try.prog 52 := ⟨_, F_52⟩
instance : IsFc Try.prog 53 := ⟨_, F_53⟩
end Go.Proofs.Ytomhieglgfjloaa
