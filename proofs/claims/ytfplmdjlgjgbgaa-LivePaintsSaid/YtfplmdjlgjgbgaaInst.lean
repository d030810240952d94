/- The types of this program, as Lean types (written by a program). -/
import Derived.Test.YtfplmdjlgjgbgaaA6
import Derived.Test.YtfplmdjlgjgbgaaFacts
namespace Go.Proofs.Ytfplmdjlgjgbgaa
set_option linter.unusedVariables false
set_option linter.unusedSimpArgs false
open Go Go.RowKit

structure SsaIns where
  fOp : Int
  fDst : Int
  fArgs : Sl Int
  fNum : Int
  fBin : Int
  fArr : Int
  fFn : Int
instance : Enc SsaIns where
  enc := fun x => [.int .i64 x.fOp, .int .i64 x.fDst, .slice x.fArgs.A x.fArgs.xs.length x.fArgs.c, .int .i64 x.fNum, .int .i64 x.fBin, .int .i64 x.fArr, .int .i64 x.fFn]
  sz := 7
  dflt := ⟨Enc.dflt, Enc.dflt, Enc.dflt, Enc.dflt, Enc.dflt, Enc.dflt, Enc.dflt⟩
  len := fun _ => rfl
  one := by
    intro x u h
    simp only [List.mem_cons, List.not_mem_nil, or_false] at h
    rcases h with rfl | rfl | rfl | rfl | rfl | rfl | rfl <;> rfl
  pos := by decide
instance : Dp SsaIns where
  rd := fun ok w x => Dp.rd ok w x.fOp ∧ Dp.rd ok w x.fDst ∧ Dp.rd ok w x.fArgs ∧ Dp.rd ok w x.fNum ∧ Dp.rd ok w x.fBin ∧ Dp.rd ok w x.fArr ∧ Dp.rd ok w x.fFn
  loc := fun h hk => ⟨Dp.loc h.1 hk, Dp.loc h.2.1 hk, Dp.loc h.2.2.1 hk, Dp.loc h.2.2.2.1 hk, Dp.loc h.2.2.2.2.1 hk, Dp.loc h.2.2.2.2.2.1 hk, Dp.loc h.2.2.2.2.2.2 hk⟩
  dflt := fun ok w => ⟨Dp.dflt ok w, Dp.dflt ok w, Dp.dflt ok w, Dp.dflt ok w, Dp.dflt ok w, Dp.dflt ok w, Dp.dflt ok w⟩
instance {ok : FP} {w : World} {x : SsaIns} [h : RdD ok w x] : RdD ok w x.fOp := ⟨h.h.1⟩
instance {ok : FP} {w : World} {x : SsaIns} [h : RdD ok w x] : RdD ok w x.fDst := ⟨h.h.2.1⟩
instance {ok : FP} {w : World} {x : SsaIns} [h : RdD ok w x] : RdD ok w x.fArgs := ⟨h.h.2.2.1⟩
instance {ok : FP} {w : World} {x : SsaIns} [h : RdD ok w x] : RdD ok w x.fNum := ⟨h.h.2.2.2.1⟩
instance {ok : FP} {w : World} {x : SsaIns} [h : RdD ok w x] : RdD ok w x.fBin := ⟨h.h.2.2.2.2.1⟩
instance {ok : FP} {w : World} {x : SsaIns} [h : RdD ok w x] : RdD ok w x.fArr := ⟨h.h.2.2.2.2.2.1⟩
instance {ok : FP} {w : World} {x : SsaIns} [h : RdD ok w x] : RdD ok w x.fFn := ⟨h.h.2.2.2.2.2.2⟩
structure SsaEdge where
  fTo : Int
  fArgs : Sl Int
instance : Enc SsaEdge where
  enc := fun x => [.int .i64 x.fTo, .slice x.fArgs.A x.fArgs.xs.length x.fArgs.c]
  sz := 2
  dflt := ⟨Enc.dflt, Enc.dflt⟩
  len := fun _ => rfl
  one := by
    intro x u h
    simp only [List.mem_cons, List.not_mem_nil, or_false] at h
    rcases h with rfl | rfl <;> rfl
  pos := by decide
instance : Dp SsaEdge where
  rd := fun ok w x => Dp.rd ok w x.fTo ∧ Dp.rd ok w x.fArgs
  loc := fun h hk => ⟨Dp.loc h.1 hk, Dp.loc h.2 hk⟩
  dflt := fun ok w => ⟨Dp.dflt ok w, Dp.dflt ok w⟩
instance {ok : FP} {w : World} {x : SsaEdge} [h : RdD ok w x] : RdD ok w x.fTo := ⟨h.h.1⟩
instance {ok : FP} {w : World} {x : SsaEdge} [h : RdD ok w x] : RdD ok w x.fArgs := ⟨h.h.2⟩
structure SsaEnd where
  fKind : Int
  fVal : Int
  fWays : Sl SsaEdge
  fTrap : Int
instance : Enc SsaEnd where
  enc := fun x => [.int .i64 x.fKind, .int .i64 x.fVal, .slice x.fWays.A x.fWays.xs.length x.fWays.c, .int .i64 x.fTrap]
  sz := 4
  dflt := ⟨Enc.dflt, Enc.dflt, Enc.dflt, Enc.dflt⟩
  len := fun _ => rfl
  one := by
    intro x u h
    simp only [List.mem_cons, List.not_mem_nil, or_false] at h
    rcases h with rfl | rfl | rfl | rfl <;> rfl
  pos := by decide
instance : Dp SsaEnd where
  rd := fun ok w x => Dp.rd ok w x.fKind ∧ Dp.rd ok w x.fVal ∧ Dp.rd ok w x.fWays ∧ Dp.rd ok w x.fTrap
  loc := fun h hk => ⟨Dp.loc h.1 hk, Dp.loc h.2.1 hk, Dp.loc h.2.2.1 hk, Dp.loc h.2.2.2 hk⟩
  dflt := fun ok w => ⟨Dp.dflt ok w, Dp.dflt ok w, Dp.dflt ok w, Dp.dflt ok w⟩
instance {ok : FP} {w : World} {x : SsaEnd} [h : RdD ok w x] : RdD ok w x.fKind := ⟨h.h.1⟩
instance {ok : FP} {w : World} {x : SsaEnd} [h : RdD ok w x] : RdD ok w x.fVal := ⟨h.h.2.1⟩
instance {ok : FP} {w : World} {x : SsaEnd} [h : RdD ok w x] : RdD ok w x.fWays := ⟨h.h.2.2.1⟩
instance {ok : FP} {w : World} {x : SsaEnd} [h : RdD ok w x] : RdD ok w x.fTrap := ⟨h.h.2.2.2⟩
structure SsaBlock where
  fParams : Sl Int
  fIns : Sl SsaIns
  fEnd : SsaEnd
instance : Enc SsaBlock where
  enc := fun x => [.slice x.fParams.A x.fParams.xs.length x.fParams.c, .slice x.fIns.A x.fIns.xs.length x.fIns.c, .int .i64 x.fEnd.fKind, .int .i64 x.fEnd.fVal, .slice x.fEnd.fWays.A x.fEnd.fWays.xs.length x.fEnd.fWays.c, .int .i64 x.fEnd.fTrap]
  sz := 6
  dflt := ⟨Enc.dflt, Enc.dflt, Enc.dflt⟩
  len := fun _ => rfl
  one := by
    intro x u h
    simp only [List.mem_cons, List.not_mem_nil, or_false] at h
    rcases h with rfl | rfl | rfl | rfl | rfl | rfl <;> rfl
  pos := by decide
instance : Dp SsaBlock where
  rd := fun ok w x => Dp.rd ok w x.fParams ∧ Dp.rd ok w x.fIns ∧ Dp.rd ok w x.fEnd
  loc := fun h hk => ⟨Dp.loc h.1 hk, Dp.loc h.2.1 hk, Dp.loc h.2.2 hk⟩
  dflt := fun ok w => ⟨Dp.dflt ok w, Dp.dflt ok w, Dp.dflt ok w⟩
instance {ok : FP} {w : World} {x : SsaBlock} [h : RdD ok w x] : RdD ok w x.fParams := ⟨h.h.1⟩
instance {ok : FP} {w : World} {x : SsaBlock} [h : RdD ok w x] : RdD ok w x.fIns := ⟨h.h.2.1⟩
instance {ok : FP} {w : World} {x : SsaBlock} [h : RdD ok w x] : RdD ok w x.fEnd := ⟨h.h.2.2⟩
structure SsaFunc where
  fName : Str
  fBlocks : Sl SsaBlock
instance : Enc SsaFunc where
  enc := fun x => [.string x.fName.v, .slice x.fBlocks.A x.fBlocks.xs.length x.fBlocks.c]
  sz := 2
  dflt := ⟨Enc.dflt, Enc.dflt⟩
  len := fun _ => rfl
  one := by
    intro x u h
    simp only [List.mem_cons, List.not_mem_nil, or_false] at h
    rcases h with rfl | rfl <;> rfl
  pos := by decide
instance : Dp SsaFunc where
  rd := fun ok w x => Dp.rd ok w x.fName ∧ Dp.rd ok w x.fBlocks
  loc := fun h hk => ⟨Dp.loc h.1 hk, Dp.loc h.2 hk⟩
  dflt := fun ok w => ⟨Dp.dflt ok w, Dp.dflt ok w⟩
instance {ok : FP} {w : World} {x : SsaFunc} [h : RdD ok w x] : RdD ok w x.fName := ⟨h.h.1⟩
instance {ok : FP} {w : World} {x : SsaFunc} [h : RdD ok w x] : RdD ok w x.fBlocks := ⟨h.h.2⟩
structure SsaArray where
  fName : Str
  fHold : Int
  fSize : Int
instance : Enc SsaArray where
  enc := fun x => [.string x.fName.v, .int .i64 x.fHold, .int .i64 x.fSize]
  sz := 3
  dflt := ⟨Enc.dflt, Enc.dflt, Enc.dflt⟩
  len := fun _ => rfl
  one := by
    intro x u h
    simp only [List.mem_cons, List.not_mem_nil, or_false] at h
    rcases h with rfl | rfl | rfl <;> rfl
  pos := by decide
instance : Dp SsaArray where
  rd := fun ok w x => Dp.rd ok w x.fName ∧ Dp.rd ok w x.fHold ∧ Dp.rd ok w x.fSize
  loc := fun h hk => ⟨Dp.loc h.1 hk, Dp.loc h.2.1 hk, Dp.loc h.2.2 hk⟩
  dflt := fun ok w => ⟨Dp.dflt ok w, Dp.dflt ok w, Dp.dflt ok w⟩
instance {ok : FP} {w : World} {x : SsaArray} [h : RdD ok w x] : RdD ok w x.fName := ⟨h.h.1⟩
instance {ok : FP} {w : World} {x : SsaArray} [h : RdD ok w x] : RdD ok w x.fHold := ⟨h.h.2.1⟩
instance {ok : FP} {w : World} {x : SsaArray} [h : RdD ok w x] : RdD ok w x.fSize := ⟨h.h.2.2⟩
structure SsaProg where
  fArrays : Sl SsaArray
  fFuncs : Sl SsaFunc
  fMain : Int
instance : Enc SsaProg where
  enc := fun x => [.slice x.fArrays.A x.fArrays.xs.length x.fArrays.c, .slice x.fFuncs.A x.fFuncs.xs.length x.fFuncs.c, .int .i64 x.fMain]
  sz := 3
  dflt := ⟨Enc.dflt, Enc.dflt, Enc.dflt⟩
  len := fun _ => rfl
  one := by
    intro x u h
    simp only [List.mem_cons, List.not_mem_nil, or_false] at h
    rcases h with rfl | rfl | rfl <;> rfl
  pos := by decide
instance : Dp SsaProg where
  rd := fun ok w x => Dp.rd ok w x.fArrays ∧ Dp.rd ok w x.fFuncs ∧ Dp.rd ok w x.fMain
  loc := fun h hk => ⟨Dp.loc h.1 hk, Dp.loc h.2.1 hk, Dp.loc h.2.2 hk⟩
  dflt := fun ok w => ⟨Dp.dflt ok w, Dp.dflt ok w, Dp.dflt ok w⟩
instance {ok : FP} {w : World} {x : SsaProg} [h : RdD ok w x] : RdD ok w x.fArrays := ⟨h.h.1⟩
instance {ok : FP} {w : World} {x : SsaProg} [h : RdD ok w x] : RdD ok w x.fFuncs := ⟨h.h.2.1⟩
instance {ok : FP} {w : World} {x : SsaProg} [h : RdD ok w x] : RdD ok w x.fMain := ⟨h.h.2.2⟩
structure LiveSets where
  fIn : Sl Mr
  fOut : Sl Mr
instance : Enc LiveSets where
  enc := fun x => [.slice x.fIn.A x.fIn.xs.length x.fIn.c, .slice x.fOut.A x.fOut.xs.length x.fOut.c]
  sz := 2
  dflt := ⟨Enc.dflt, Enc.dflt⟩
  len := fun _ => rfl
  one := by
    intro x u h
    simp only [List.mem_cons, List.not_mem_nil, or_false] at h
    rcases h with rfl | rfl <;> rfl
  pos := by decide
instance : Dp LiveSets where
  rd := fun ok w x => Dp.rd ok w x.fIn ∧ Dp.rd ok w x.fOut
  loc := fun h hk => ⟨Dp.loc h.1 hk, Dp.loc h.2 hk⟩
  dflt := fun ok w => ⟨Dp.dflt ok w, Dp.dflt ok w⟩
instance {ok : FP} {w : World} {x : LiveSets} [h : RdD ok w x] : RdD ok w x.fIn := ⟨h.h.1⟩
instance {ok : FP} {w : World} {x : LiveSets} [h : RdD ok w x] : RdD ok w x.fOut := ⟨h.h.2⟩
structure LivePainter where
  fRegs : Mr
  fMost : Int
instance : Enc LivePainter where
  enc := fun x => [.map x.fRegs.b, .int .i64 x.fMost]
  sz := 2
  dflt := ⟨Enc.dflt, Enc.dflt⟩
  len := fun _ => rfl
  one := by
    intro x u h
    simp only [List.mem_cons, List.not_mem_nil, or_false] at h
    rcases h with rfl | rfl <;> rfl
  pos := by decide
instance : Dp LivePainter where
  rd := fun ok w x => Dp.rd ok w x.fRegs ∧ Dp.rd ok w x.fMost
  loc := fun h hk => ⟨Dp.loc h.1 hk, Dp.loc h.2 hk⟩
  dflt := fun ok w => ⟨Dp.dflt ok w, Dp.dflt ok w⟩
instance {ok : FP} {w : World} {x : LivePainter} [h : RdD ok w x] : RdD ok w x.fRegs := ⟨h.h.1⟩
instance {ok : FP} {w : World} {x : LivePainter} [h : RdD ok w x] : RdD ok w x.fMost := ⟨h.h.2⟩
structure FlowGraph where
  fOuts : Sl (Sl Int)
  fIns : Sl (Sl Int)
  fReach : Sl Bool
instance : Enc FlowGraph where
  enc := fun x => [.slice x.fOuts.A x.fOuts.xs.length x.fOuts.c, .slice x.fIns.A x.fIns.xs.length x.fIns.c, .slice x.fReach.A x.fReach.xs.length x.fReach.c]
  sz := 3
  dflt := ⟨Enc.dflt, Enc.dflt, Enc.dflt⟩
  len := fun _ => rfl
  one := by
    intro x u h
    simp only [List.mem_cons, List.not_mem_nil, or_false] at h
    rcases h with rfl | rfl | rfl <;> rfl
  pos := by decide
instance : Dp FlowGraph where
  rd := fun ok w x => Dp.rd ok w x.fOuts ∧ Dp.rd ok w x.fIns ∧ Dp.rd ok w x.fReach
  loc := fun h hk => ⟨Dp.loc h.1 hk, Dp.loc h.2.1 hk, Dp.loc h.2.2 hk⟩
  dflt := fun ok w => ⟨Dp.dflt ok w, Dp.dflt ok w, Dp.dflt ok w⟩
instance {ok : FP} {w : World} {x : FlowGraph} [h : RdD ok w x] : RdD ok w x.fOuts := ⟨h.h.1⟩
instance {ok : FP} {w : World} {x : FlowGraph} [h : RdD ok w x] : RdD ok w x.fIns := ⟨h.h.2.1⟩
instance {ok : FP} {w : World} {x : FlowGraph} [h : RdD ok w x] : RdD ok w x.fReach := ⟨h.h.2.2⟩
instance : C1 Try.prog 2 := ⟨T1_2⟩
instance : Elt Try.prog 2 (Int) (by infer_instance) 1 8 := ⟨⟨_, TI_2, rfl⟩, rfl⟩
instance : Ekc Try.prog 2 Int (ekInt U_2) := ⟨TI_2.zero, fun _ => rfl⟩
instance : C1 Try.prog 3 := ⟨T1_3⟩
instance : Elt Try.prog 3 (Int) (by infer_instance) 1 8 := ⟨⟨_, TI_3, rfl⟩, rfl⟩
instance : Ekc Try.prog 3 Int (ekInt U_3) := ⟨TI_3.zero, fun _ => rfl⟩
instance : C1 Try.prog 4 := ⟨T1_4⟩
instance : Elt Try.prog 4 (Bool) (by infer_instance) 1 1 := ⟨⟨_, TI_4, rfl⟩, rfl⟩
instance : Ekc Try.prog 4 Bool (ekBool U_4) := ⟨TI_4.zero, fun _ => rfl⟩
instance : BoT Try.prog 4 := ⟨U_4⟩
instance : C1 Try.prog 5 := ⟨T1_5⟩
instance : Elt Try.prog 5 (Iof .u8) (by infer_instance) 1 1 := ⟨⟨_, TI_5, rfl⟩, rfl⟩
instance : C1 Try.prog 9 := ⟨T1_9⟩
instance : Elt Try.prog 9 (Str) (by infer_instance) 1 16 := ⟨⟨_, TI_9, rfl⟩, rfl⟩
instance : C1 Try.prog 12 := ⟨T1_12⟩
instance : Elt Try.prog 12 (Iof .u64) (by infer_instance) 1 8 := ⟨⟨_, TI_12, rfl⟩, rfl⟩
instance : CA Try.prog 13 2 := ⟨TA_13⟩
instance : C1 Try.prog 21 := ⟨T1_21⟩
instance : Elt Try.prog 21 (Iof .i32) (by infer_instance) 1 4 := ⟨⟨_, TI_21, rfl⟩, rfl⟩
instance : C1 Try.prog 23 := ⟨T1_23⟩
instance : Elt Try.prog 23 (Sl Int) (by infer_instance) 1 24 := ⟨⟨_, TI_23, rfl⟩, rfl⟩
instance : SlT Try.prog 23 3 := ⟨U_23⟩
instance : C1 Try.prog 24 := ⟨T1_24⟩
instance : Elt Try.prog 24 (Sl SsaIns) (by infer_instance) 1 24 := ⟨⟨_, TI_24, rfl⟩, rfl⟩
instance : SlT Try.prog 24 35 := ⟨U_24⟩
instance : C1 Try.prog 25 := ⟨T1_25⟩
instance : Elt Try.prog 25 (Int) (by infer_instance) 1 8 := ⟨⟨_, TI_25, rfl⟩, rfl⟩
instance : Ekc Try.prog 25 Int (ekInt U_25) := ⟨TI_25.zero, fun _ => rfl⟩
instance : C1 Try.prog 26 := ⟨T1_26⟩
instance : Elt Try.prog 26 (Sl SsaEdge) (by infer_instance) 1 24 := ⟨⟨_, TI_26, rfl⟩, rfl⟩
instance : SlT Try.prog 26 57 := ⟨U_26⟩
instance : C1 Try.prog 27 := ⟨T1_27⟩
instance : Elt Try.prog 27 (Int) (by infer_instance) 1 8 := ⟨⟨_, TI_27, rfl⟩, rfl⟩
instance : Ekc Try.prog 27 Int (ekInt U_27) := ⟨TI_27.zero, fun _ => rfl⟩
instance : CA Try.prog 28 4 := ⟨TA_28⟩
instance : CA Try.prog 29 4 := ⟨TA_29⟩
instance : Elt Try.prog 29 (SsaEnd) (by infer_instance) 4 48 := ⟨⟨_, TI_29, rfl⟩, rfl⟩
instance : FldT Try.prog 29 0 0 := ⟨_, fd_29_0, 0, U_29, rfl, rfl, T1_25.sz⟩
instance : FldT Try.prog 29 1 1 := ⟨_, fd_29_1, 0, U_29, rfl, rfl, T1_3.sz⟩
instance : FldT Try.prog 29 2 2 := ⟨_, fd_29_2, 0, U_29, rfl, rfl, T1_26.sz⟩
instance : FldT Try.prog 29 3 3 := ⟨_, fd_29_3, 0, U_29, rfl, rfl, T1_27.sz⟩
instance : CA Try.prog 30 6 := ⟨TA_30⟩
instance : CA Try.prog 31 6 := ⟨TA_31⟩
instance : Elt Try.prog 31 (SsaBlock) (by infer_instance) 6 96 := ⟨⟨_, TI_31, rfl⟩, rfl⟩
instance : FldT Try.prog 31 0 0 := ⟨_, fd_31_0, 0, U_31, rfl, rfl, T1_23.sz⟩
instance : FldT Try.prog 31 1 1 := ⟨_, fd_31_1, 0, U_31, rfl, rfl, T1_24.sz⟩
instance : FldT Try.prog 31 2 2 := ⟨_, fd_31_2, 3, U_31, rfl, rfl, TA_29.sz⟩
instance : C1 Try.prog 32 := ⟨T1_32⟩
instance : Elt Try.prog 32 (Int) (by infer_instance) 1 8 := ⟨⟨_, TI_32, rfl⟩, rfl⟩
instance : Ekc Try.prog 32 Int (ekInt U_32) := ⟨TI_32.zero, fun _ => rfl⟩
instance : C1 Try.prog 33 := ⟨T1_33⟩
instance : Elt Try.prog 33 (Int) (by infer_instance) 1 8 := ⟨⟨_, TI_33, rfl⟩, rfl⟩
instance : Ekc Try.prog 33 Int (ekInt U_33) := ⟨TI_33.zero, fun _ => rfl⟩
instance : CA Try.prog 34 7 := ⟨TA_34⟩
instance : CA Try.prog 35 7 := ⟨TA_35⟩
instance : Elt Try.prog 35 (SsaIns) (by infer_instance) 7 72 := ⟨⟨_, TI_35, rfl⟩, rfl⟩
instance : FldT Try.prog 35 0 0 := ⟨_, fd_35_0, 0, U_35, rfl, rfl, T1_32.sz⟩
instance : FldT Try.prog 35 1 1 := ⟨_, fd_35_1, 0, U_35, rfl, rfl, T1_3.sz⟩
instance : FldT Try.prog 35 2 2 := ⟨_, fd_35_2, 0, U_35, rfl, rfl, T1_23.sz⟩
instance : FldT Try.prog 35 3 3 := ⟨_, fd_35_3, 0, U_35, rfl, rfl, T1_2.sz⟩
instance : FldT Try.prog 35 4 4 := ⟨_, fd_35_4, 0, U_35, rfl, rfl, T1_33.sz⟩
instance : FldT Try.prog 35 5 5 := ⟨_, fd_35_5, 0, U_35, rfl, rfl, T1_3.sz⟩
instance : FldT Try.prog 35 6 6 := ⟨_, fd_35_6, 0, U_35, rfl, rfl, T1_3.sz⟩
instance : C1 Try.prog 36 := ⟨T1_36⟩
instance : Elt Try.prog 36 (Sl SsaBlock) (by infer_instance) 1 24 := ⟨⟨_, TI_36, rfl⟩, rfl⟩
instance : SlT Try.prog 36 31 := ⟨U_36⟩
instance : CA Try.prog 37 2 := ⟨TA_37⟩
instance : CA Try.prog 38 2 := ⟨TA_38⟩
instance : Elt Try.prog 38 (SsaFunc) (by infer_instance) 2 40 := ⟨⟨_, TI_38, rfl⟩, rfl⟩
instance : FldT Try.prog 38 0 0 := ⟨_, fd_38_0, 0, U_38, rfl, rfl, T1_9.sz⟩
instance : FldT Try.prog 38 1 1 := ⟨_, fd_38_1, 0, U_38, rfl, rfl, T1_36.sz⟩
instance : C1 Try.prog 39 := ⟨T1_39⟩
instance : Elt Try.prog 39 (Mr) (by infer_instance) 1 8 := ⟨⟨_, TI_39, rfl⟩, rfl⟩
instance : MpT Try.prog 39 3 3 := ⟨U_39, U_3⟩
instance : C1 Try.prog 40 := ⟨T1_40⟩
instance : Elt Try.prog 40 (Int) (by infer_instance) 1 8 := ⟨⟨_, TI_40, rfl⟩, rfl⟩
instance : Ekc Try.prog 40 Int (ekInt U_40) := ⟨TI_40.zero, fun _ => rfl⟩
instance : C1 Try.prog 45 := ⟨T1_45⟩
instance : Elt Try.prog 45 (Sl SsaArray) (by infer_instance) 1 24 := ⟨⟨_, TI_45, rfl⟩, rfl⟩
instance : SlT Try.prog 45 84 := ⟨U_45⟩
instance : C1 Try.prog 46 := ⟨T1_46⟩
instance : Elt Try.prog 46 (Sl SsaFunc) (by infer_instance) 1 24 := ⟨⟨_, TI_46, rfl⟩, rfl⟩
instance : SlT Try.prog 46 38 := ⟨U_46⟩
instance : CA Try.prog 47 3 := ⟨TA_47⟩
instance : CA Try.prog 48 3 := ⟨TA_48⟩
instance : Elt Try.prog 48 (SsaProg) (by infer_instance) 3 56 := ⟨⟨_, TI_48, rfl⟩, rfl⟩
instance : FldT Try.prog 48 0 0 := ⟨_, fd_48_0, 0, U_48, rfl, rfl, T1_45.sz⟩
instance : FldT Try.prog 48 1 1 := ⟨_, fd_48_1, 0, U_48, rfl, rfl, T1_46.sz⟩
instance : FldT Try.prog 48 2 2 := ⟨_, fd_48_2, 0, U_48, rfl, rfl, T1_3.sz⟩
instance : C1 Try.prog 50 := ⟨T1_50⟩
instance : Elt Try.prog 50 (Sl Mr) (by infer_instance) 1 24 := ⟨⟨_, TI_50, rfl⟩, rfl⟩
instance : SlT Try.prog 50 58 := ⟨U_50⟩
instance : CA Try.prog 51 2 := ⟨TA_51⟩
instance : CA Try.prog 52 2 := ⟨TA_52⟩
instance : Elt Try.prog 52 (LiveSets) (by infer_instance) 2 48 := ⟨⟨_, TI_52, rfl⟩, rfl⟩
instance : FldT Try.prog 52 0 0 := ⟨_, fd_52_0, 0, U_52, rfl, rfl, T1_50.sz⟩
instance : FldT Try.prog 52 1 1 := ⟨_, fd_52_1, 0, U_52, rfl, rfl, T1_50.sz⟩
instance : CA Try.prog 56 2 := ⟨TA_56⟩
instance : CA Try.prog 57 2 := ⟨TA_57⟩
instance : Elt Try.prog 57 (SsaEdge) (by infer_instance) 2 32 := ⟨⟨_, TI_57, rfl⟩, rfl⟩
instance : FldT Try.prog 57 0 0 := ⟨_, fd_57_0, 0, U_57, rfl, rfl, T1_3.sz⟩
instance : FldT Try.prog 57 1 1 := ⟨_, fd_57_1, 0, U_57, rfl, rfl, T1_23.sz⟩
instance : C1 Try.prog 58 := ⟨T1_58⟩
instance : Elt Try.prog 58 (Mr) (by infer_instance) 1 8 := ⟨⟨_, TI_58, rfl⟩, rfl⟩
instance : MpT Try.prog 58 3 4 := ⟨U_58, U_3⟩
instance : C1 Try.prog 59 := ⟨T1_59⟩
instance : Elt Try.prog 59 (Sl Bool) (by infer_instance) 1 24 := ⟨⟨_, TI_59, rfl⟩, rfl⟩
instance : SlT Try.prog 59 4 := ⟨U_59⟩
instance : C1 Try.prog 61 := ⟨T1_61⟩
instance : Elt Try.prog 61 (Sl (Sl Int)) (by infer_instance) 1 24 := ⟨⟨_, TI_61, rfl⟩, rfl⟩
instance : SlT Try.prog 61 23 := ⟨U_61⟩
instance : C1 Try.prog 65 := ⟨T1_65⟩
instance : Elt Try.prog 65 (Pr) (by infer_instance) 1 8 := ⟨⟨_, TI_65, rfl⟩, rfl⟩
instance : PtT Try.prog 65 := ⟨_, U_65⟩
instance : CA Try.prog 66 2 := ⟨TA_66⟩
instance : CA Try.prog 67 2 := ⟨TA_67⟩
instance : Elt Try.prog 67 (LivePainter) (by infer_instance) 2 16 := ⟨⟨_, TI_67, rfl⟩, rfl⟩
instance : FldT Try.prog 67 0 0 := ⟨_, fd_67_0, 0, U_67, rfl, rfl, T1_39.sz⟩
instance : FldT Try.prog 67 1 1 := ⟨_, fd_67_1, 0, U_67, rfl, rfl, T1_3.sz⟩
instance : C1 Try.prog 68 := ⟨T1_68⟩
instance : Elt Try.prog 68 (Pr) (by infer_instance) 1 8 := ⟨⟨_, TI_68, rfl⟩, rfl⟩
instance : PtT Try.prog 68 := ⟨_, U_68⟩
instance : CA Try.prog 77 3 := ⟨TA_77⟩
instance : CA Try.prog 78 3 := ⟨TA_78⟩
instance : Elt Try.prog 78 (FlowGraph) (by infer_instance) 3 72 := ⟨⟨_, TI_78, rfl⟩, rfl⟩
instance : FldT Try.prog 78 0 0 := ⟨_, fd_78_0, 0, U_78, rfl, rfl, T1_61.sz⟩
instance : FldT Try.prog 78 1 1 := ⟨_, fd_78_1, 0, U_78, rfl, rfl, T1_61.sz⟩
instance : FldT Try.prog 78 2 2 := ⟨_, fd_78_2, 0, U_78, rfl, rfl, T1_59.sz⟩
instance : C1 Try.prog 82 := ⟨T1_82⟩
instance : Elt Try.prog 82 (Int) (by infer_instance) 1 8 := ⟨⟨_, TI_82, rfl⟩, rfl⟩
instance : Ekc Try.prog 82 Int (ekInt U_82) := ⟨TI_82.zero, fun _ => rfl⟩
instance : CA Try.prog 83 3 := ⟨TA_83⟩
instance : CA Try.prog 84 3 := ⟨TA_84⟩
instance : Elt Try.prog 84 (SsaArray) (by infer_instance) 3 32 := ⟨⟨_, TI_84, rfl⟩, rfl⟩
instance : FldT Try.prog 84 0 0 := ⟨_, fd_84_0, 0, U_84, rfl, rfl, T1_9.sz⟩
instance : FldT Try.prog 84 1 1 := ⟨_, fd_84_1, 0, U_84, rfl, rfl, T1_82.sz⟩
instance : FldT Try.prog 84 2 2 := ⟨_, fd_84_2, 0, U_84, rfl, rfl, T1_3.sz⟩
instance : CA Try.prog 91 64 := ⟨TA_91⟩
instance : C1 Try.prog 93 := ⟨T1_93⟩
instance : Elt Try.prog 93 (Mr) (by infer_instance) 1 8 := ⟨⟨_, TI_93, rfl⟩, rfl⟩
instance : MpT Try.prog 93 25 3 := ⟨U_93, U_25⟩
instance : C1 Try.prog 107 := ⟨T1_107⟩
instance : Elt Try.prog 107 (Iof .u32) (by infer_instance) 1 4 := ⟨⟨_, TI_107, rfl⟩, rfl⟩
instance : C1 Try.prog 111 := ⟨T1_111⟩
instance : Elt Try.prog 111 (Pr) (by infer_instance) 1 8 := ⟨⟨_, TI_111, rfl⟩, rfl⟩
instance : PtT Try.prog 111 := ⟨_, U_111⟩
instance : Opn Try.prog 2 (Int) (by infer_instance) (by infer_instance) := opn_int U_2
instance : Opn Try.prog 3 (Int) (by infer_instance) (by infer_instance) := opn_int U_3
instance : Opn Try.prog 4 (Bool) (by infer_instance) (by infer_instance) := opn_bool U_4
instance : Opn Try.prog 5 (Iof .u8) (by infer_instance) (by infer_instance) := opn_iof U_5
instance : Opn Try.prog 9 (Str) (by infer_instance) (by infer_instance) := opn_str U_9
instance : Opn Try.prog 12 (Iof .u64) (by infer_instance) (by infer_instance) := opn_iof U_12
instance : Opn Try.prog 21 (Iof .i32) (by infer_instance) (by infer_instance) := opn_iof U_21
instance : Opn Try.prog 23 (Sl Int) (by infer_instance) (by infer_instance) := opn_slice U_23 inferInstance (by kernel_rfl)
instance : Opn Try.prog 32 (Int) (by infer_instance) (by infer_instance) := opn_int U_32
instance : Opn Try.prog 33 (Int) (by infer_instance) (by infer_instance) := opn_int U_33
instance : Opn Try.prog 35 SsaIns (by infer_instance) (by infer_instance) := ⟨fun {H enc W fuel cs x} h => by
  obtain ⟨ys, n', _, _, hlen, hyl, hfd⟩ := DataW.trod_struct U_35 h
  have hlen : cs.length = 7 := hlen.trans (by kernel_rfl)
  have hyl : ys.length = 7 := hyl
  have h0 : DataW.trod enc Try.prog W 0 (fun _ => true) true n' 32 ((cs.drop 0).take (Try.prog.cellsOf 32)) = some (ys[0]'(by rw [hyl]; decide)) := (hfd 0 fd_35_0 rfl).trans (List.getElem?_eq_getElem _)
  obtain ⟨u0, e0, r0⟩ := (inferInstance : Opn Try.prog 32 (Int) _ _).opn h0
  rw [show Try.prog.cellsOf 32 = 1 by kernel_rfl] at e0
  have h1 : DataW.trod enc Try.prog W 0 (fun _ => true) true n' 3 ((cs.drop 1).take (Try.prog.cellsOf 3)) = some (ys[1]'(by rw [hyl]; decide)) := (hfd 1 fd_35_1 rfl).trans (List.getElem?_eq_getElem _)
  obtain ⟨u1, e1, r1⟩ := (inferInstance : Opn Try.prog 3 (Int) _ _).opn h1
  rw [show Try.prog.cellsOf 3 = 1 by kernel_rfl] at e1
  have h2 : DataW.trod enc Try.prog W 0 (fun _ => true) true n' 23 ((cs.drop 2).take (Try.prog.cellsOf 23)) = some (ys[2]'(by rw [hyl]; decide)) := (hfd 2 fd_35_2 rfl).trans (List.getElem?_eq_getElem _)
  obtain ⟨u2, e2, r2⟩ := (inferInstance : Opn Try.prog 23 (Sl Int) _ _).opn h2
  rw [show Try.prog.cellsOf 23 = 1 by kernel_rfl] at e2
  have h3 : DataW.trod enc Try.prog W 0 (fun _ => true) true n' 2 ((cs.drop 3).take (Try.prog.cellsOf 2)) = some (ys[3]'(by rw [hyl]; decide)) := (hfd 3 fd_35_3 rfl).trans (List.getElem?_eq_getElem _)
  obtain ⟨u3, e3, r3⟩ := (inferInstance : Opn Try.prog 2 (Int) _ _).opn h3
  rw [show Try.prog.cellsOf 2 = 1 by kernel_rfl] at e3
  have h4 : DataW.trod enc Try.prog W 0 (fun _ => true) true n' 33 ((cs.drop 4).take (Try.prog.cellsOf 33)) = some (ys[4]'(by rw [hyl]; decide)) := (hfd 4 fd_35_4 rfl).trans (List.getElem?_eq_getElem _)
  obtain ⟨u4, e4, r4⟩ := (inferInstance : Opn Try.prog 33 (Int) _ _).opn h4
  rw [show Try.prog.cellsOf 33 = 1 by kernel_rfl] at e4
  have h5 : DataW.trod enc Try.prog W 0 (fun _ => true) true n' 3 ((cs.drop 5).take (Try.prog.cellsOf 3)) = some (ys[5]'(by rw [hyl]; decide)) := (hfd 5 fd_35_5 rfl).trans (List.getElem?_eq_getElem _)
  obtain ⟨u5, e5, r5⟩ := (inferInstance : Opn Try.prog 3 (Int) _ _).opn h5
  rw [show Try.prog.cellsOf 3 = 1 by kernel_rfl] at e5
  have h6 : DataW.trod enc Try.prog W 0 (fun _ => true) true n' 3 ((cs.drop 6).take (Try.prog.cellsOf 3)) = some (ys[6]'(by rw [hyl]; decide)) := (hfd 6 fd_35_6 rfl).trans (List.getElem?_eq_getElem _)
  obtain ⟨u6, e6, r6⟩ := (inferInstance : Opn Try.prog 3 (Int) _ _).opn h6
  rw [show Try.prog.cellsOf 3 = 1 by kernel_rfl] at e6
  refine ⟨⟨u0, u1, u2, u3, u4, u5, u6⟩, ?_, r0, r1, r2, r3, r4, r5, r6⟩
  have hcs : cs = (cs.drop 0).take 1 ++ ((cs.drop 1).take 1 ++ ((cs.drop 2).take 1 ++ ((cs.drop 3).take 1 ++ ((cs.drop 4).take 1 ++ ((cs.drop 5).take 1 ++ ((cs.drop 6).take 1 ++ (cs.drop 7))))))) := by
    conv => lhs; rw [← List.drop_zero (l := cs)]
    conv => lhs; rw [cut_drop cs 0 1]
    conv => lhs; arg 2; rw [cut_drop cs 1 1]
    conv => lhs; arg 2; arg 2; rw [cut_drop cs 2 1]
    conv => lhs; arg 2; arg 2; arg 2; rw [cut_drop cs 3 1]
    conv => lhs; arg 2; arg 2; arg 2; arg 2; rw [cut_drop cs 4 1]
    conv => lhs; arg 2; arg 2; arg 2; arg 2; arg 2; rw [cut_drop cs 5 1]
    conv => lhs; arg 2; arg 2; arg 2; arg 2; arg 2; arg 2; rw [cut_drop cs 6 1]
  rw [show cs.drop 7 = [] from List.drop_eq_nil_of_le (by omega)] at hcs
  refine hcs.trans ?_
  rw [e0, e1, e2, e3, e4, e5, e6]; rfl⟩
instance : Opn Try.prog 24 (Sl SsaIns) (by infer_instance) (by infer_instance) := opn_slice U_24 inferInstance (by kernel_rfl)
instance : Opn Try.prog 25 (Int) (by infer_instance) (by infer_instance) := opn_int U_25
instance : Opn Try.prog 57 SsaEdge (by infer_instance) (by infer_instance) := ⟨fun {H enc W fuel cs x} h => by
  obtain ⟨ys, n', _, _, hlen, hyl, hfd⟩ := DataW.trod_struct U_57 h
  have hlen : cs.length = 2 := hlen.trans (by kernel_rfl)
  have hyl : ys.length = 2 := hyl
  have h0 : DataW.trod enc Try.prog W 0 (fun _ => true) true n' 3 ((cs.drop 0).take (Try.prog.cellsOf 3)) = some (ys[0]'(by rw [hyl]; decide)) := (hfd 0 fd_57_0 rfl).trans (List.getElem?_eq_getElem _)
  obtain ⟨u0, e0, r0⟩ := (inferInstance : Opn Try.prog 3 (Int) _ _).opn h0
  rw [show Try.prog.cellsOf 3 = 1 by kernel_rfl] at e0
  have h1 : DataW.trod enc Try.prog W 0 (fun _ => true) true n' 23 ((cs.drop 1).take (Try.prog.cellsOf 23)) = some (ys[1]'(by rw [hyl]; decide)) := (hfd 1 fd_57_1 rfl).trans (List.getElem?_eq_getElem _)
  obtain ⟨u1, e1, r1⟩ := (inferInstance : Opn Try.prog 23 (Sl Int) _ _).opn h1
  rw [show Try.prog.cellsOf 23 = 1 by kernel_rfl] at e1
  refine ⟨⟨u0, u1⟩, ?_, r0, r1⟩
  have hcs : cs = (cs.drop 0).take 1 ++ ((cs.drop 1).take 1 ++ (cs.drop 2)) := by
    conv => lhs; rw [← List.drop_zero (l := cs)]
    conv => lhs; rw [cut_drop cs 0 1]
    conv => lhs; arg 2; rw [cut_drop cs 1 1]
  rw [show cs.drop 2 = [] from List.drop_eq_nil_of_le (by omega)] at hcs
  refine hcs.trans ?_
  rw [e0, e1]; rfl⟩
instance : Opn Try.prog 26 (Sl SsaEdge) (by infer_instance) (by infer_instance) := opn_slice U_26 inferInstance (by kernel_rfl)
instance : Opn Try.prog 27 (Int) (by infer_instance) (by infer_instance) := opn_int U_27
instance : Opn Try.prog 29 SsaEnd (by infer_instance) (by infer_instance) := ⟨fun {H enc W fuel cs x} h => by
  obtain ⟨ys, n', _, _, hlen, hyl, hfd⟩ := DataW.trod_struct U_29 h
  have hlen : cs.length = 4 := hlen.trans (by kernel_rfl)
  have hyl : ys.length = 4 := hyl
  have h0 : DataW.trod enc Try.prog W 0 (fun _ => true) true n' 25 ((cs.drop 0).take (Try.prog.cellsOf 25)) = some (ys[0]'(by rw [hyl]; decide)) := (hfd 0 fd_29_0 rfl).trans (List.getElem?_eq_getElem _)
  obtain ⟨u0, e0, r0⟩ := (inferInstance : Opn Try.prog 25 (Int) _ _).opn h0
  rw [show Try.prog.cellsOf 25 = 1 by kernel_rfl] at e0
  have h1 : DataW.trod enc Try.prog W 0 (fun _ => true) true n' 3 ((cs.drop 1).take (Try.prog.cellsOf 3)) = some (ys[1]'(by rw [hyl]; decide)) := (hfd 1 fd_29_1 rfl).trans (List.getElem?_eq_getElem _)
  obtain ⟨u1, e1, r1⟩ := (inferInstance : Opn Try.prog 3 (Int) _ _).opn h1
  rw [show Try.prog.cellsOf 3 = 1 by kernel_rfl] at e1
  have h2 : DataW.trod enc Try.prog W 0 (fun _ => true) true n' 26 ((cs.drop 2).take (Try.prog.cellsOf 26)) = some (ys[2]'(by rw [hyl]; decide)) := (hfd 2 fd_29_2 rfl).trans (List.getElem?_eq_getElem _)
  obtain ⟨u2, e2, r2⟩ := (inferInstance : Opn Try.prog 26 (Sl SsaEdge) _ _).opn h2
  rw [show Try.prog.cellsOf 26 = 1 by kernel_rfl] at e2
  have h3 : DataW.trod enc Try.prog W 0 (fun _ => true) true n' 27 ((cs.drop 3).take (Try.prog.cellsOf 27)) = some (ys[3]'(by rw [hyl]; decide)) := (hfd 3 fd_29_3 rfl).trans (List.getElem?_eq_getElem _)
  obtain ⟨u3, e3, r3⟩ := (inferInstance : Opn Try.prog 27 (Int) _ _).opn h3
  rw [show Try.prog.cellsOf 27 = 1 by kernel_rfl] at e3
  refine ⟨⟨u0, u1, u2, u3⟩, ?_, r0, r1, r2, r3⟩
  have hcs : cs = (cs.drop 0).take 1 ++ ((cs.drop 1).take 1 ++ ((cs.drop 2).take 1 ++ ((cs.drop 3).take 1 ++ (cs.drop 4)))) := by
    conv => lhs; rw [← List.drop_zero (l := cs)]
    conv => lhs; rw [cut_drop cs 0 1]
    conv => lhs; arg 2; rw [cut_drop cs 1 1]
    conv => lhs; arg 2; arg 2; rw [cut_drop cs 2 1]
    conv => lhs; arg 2; arg 2; arg 2; rw [cut_drop cs 3 1]
  rw [show cs.drop 4 = [] from List.drop_eq_nil_of_le (by omega)] at hcs
  refine hcs.trans ?_
  rw [e0, e1, e2, e3]; rfl⟩
instance : Opn Try.prog 31 SsaBlock (by infer_instance) (by infer_instance) := ⟨fun {H enc W fuel cs x} h => by
  obtain ⟨ys, n', _, _, hlen, hyl, hfd⟩ := DataW.trod_struct U_31 h
  have hlen : cs.length = 6 := hlen.trans (by kernel_rfl)
  have hyl : ys.length = 3 := hyl
  have h0 : DataW.trod enc Try.prog W 0 (fun _ => true) true n' 23 ((cs.drop 0).take (Try.prog.cellsOf 23)) = some (ys[0]'(by rw [hyl]; decide)) := (hfd 0 fd_31_0 rfl).trans (List.getElem?_eq_getElem _)
  obtain ⟨u0, e0, r0⟩ := (inferInstance : Opn Try.prog 23 (Sl Int) _ _).opn h0
  rw [show Try.prog.cellsOf 23 = 1 by kernel_rfl] at e0
  have h1 : DataW.trod enc Try.prog W 0 (fun _ => true) true n' 24 ((cs.drop 1).take (Try.prog.cellsOf 24)) = some (ys[1]'(by rw [hyl]; decide)) := (hfd 1 fd_31_1 rfl).trans (List.getElem?_eq_getElem _)
  obtain ⟨u1, e1, r1⟩ := (inferInstance : Opn Try.prog 24 (Sl SsaIns) _ _).opn h1
  rw [show Try.prog.cellsOf 24 = 1 by kernel_rfl] at e1
  have h2 : DataW.trod enc Try.prog W 0 (fun _ => true) true n' 29 ((cs.drop 2).take (Try.prog.cellsOf 29)) = some (ys[2]'(by rw [hyl]; decide)) := (hfd 2 fd_31_2 rfl).trans (List.getElem?_eq_getElem _)
  obtain ⟨u2, e2, r2⟩ := (inferInstance : Opn Try.prog 29 (SsaEnd) _ _).opn h2
  rw [show Try.prog.cellsOf 29 = 4 by kernel_rfl] at e2
  refine ⟨⟨u0, u1, u2⟩, ?_, r0, r1, r2⟩
  have hcs : cs = (cs.drop 0).take 1 ++ ((cs.drop 1).take 1 ++ ((cs.drop 2).take 4 ++ (cs.drop 6))) := by
    conv => lhs; rw [← List.drop_zero (l := cs)]
    conv => lhs; rw [cut_drop cs 0 1]
    conv => lhs; arg 2; rw [cut_drop cs 1 1]
    conv => lhs; arg 2; arg 2; rw [cut_drop cs 2 4]
  rw [show cs.drop 6 = [] from List.drop_eq_nil_of_le (by omega)] at hcs
  refine hcs.trans ?_
  rw [e0, e1, e2]; rfl⟩
instance : Opn Try.prog 36 (Sl SsaBlock) (by infer_instance) (by infer_instance) := opn_slice U_36 inferInstance (by kernel_rfl)
instance : Opn Try.prog 38 SsaFunc (by infer_instance) (by infer_instance) := ⟨fun {H enc W fuel cs x} h => by
  obtain ⟨ys, n', _, _, hlen, hyl, hfd⟩ := DataW.trod_struct U_38 h
  have hlen : cs.length = 2 := hlen.trans (by kernel_rfl)
  have hyl : ys.length = 2 := hyl
  have h0 : DataW.trod enc Try.prog W 0 (fun _ => true) true n' 9 ((cs.drop 0).take (Try.prog.cellsOf 9)) = some (ys[0]'(by rw [hyl]; decide)) := (hfd 0 fd_38_0 rfl).trans (List.getElem?_eq_getElem _)
  obtain ⟨u0, e0, r0⟩ := (inferInstance : Opn Try.prog 9 (Str) _ _).opn h0
  rw [show Try.prog.cellsOf 9 = 1 by kernel_rfl] at e0
  have h1 : DataW.trod enc Try.prog W 0 (fun _ => true) true n' 36 ((cs.drop 1).take (Try.prog.cellsOf 36)) = some (ys[1]'(by rw [hyl]; decide)) := (hfd 1 fd_38_1 rfl).trans (List.getElem?_eq_getElem _)
  obtain ⟨u1, e1, r1⟩ := (inferInstance : Opn Try.prog 36 (Sl SsaBlock) _ _).opn h1
  rw [show Try.prog.cellsOf 36 = 1 by kernel_rfl] at e1
  refine ⟨⟨u0, u1⟩, ?_, r0, r1⟩
  have hcs : cs = (cs.drop 0).take 1 ++ ((cs.drop 1).take 1 ++ (cs.drop 2)) := by
    conv => lhs; rw [← List.drop_zero (l := cs)]
    conv => lhs; rw [cut_drop cs 0 1]
    conv => lhs; arg 2; rw [cut_drop cs 1 1]
  rw [show cs.drop 2 = [] from List.drop_eq_nil_of_le (by omega)] at hcs
  refine hcs.trans ?_
  rw [e0, e1]; rfl⟩
instance : Opn Try.prog 40 (Int) (by infer_instance) (by infer_instance) := opn_int U_40
instance : Opn Try.prog 82 (Int) (by infer_instance) (by infer_instance) := opn_int U_82
instance : Opn Try.prog 84 SsaArray (by infer_instance) (by infer_instance) := ⟨fun {H enc W fuel cs x} h => by
  obtain ⟨ys, n', _, _, hlen, hyl, hfd⟩ := DataW.trod_struct U_84 h
  have hlen : cs.length = 3 := hlen.trans (by kernel_rfl)
  have hyl : ys.length = 3 := hyl
  have h0 : DataW.trod enc Try.prog W 0 (fun _ => true) true n' 9 ((cs.drop 0).take (Try.prog.cellsOf 9)) = some (ys[0]'(by rw [hyl]; decide)) := (hfd 0 fd_84_0 rfl).trans (List.getElem?_eq_getElem _)
  obtain ⟨u0, e0, r0⟩ := (inferInstance : Opn Try.prog 9 (Str) _ _).opn h0
  rw [show Try.prog.cellsOf 9 = 1 by kernel_rfl] at e0
  have h1 : DataW.trod enc Try.prog W 0 (fun _ => true) true n' 82 ((cs.drop 1).take (Try.prog.cellsOf 82)) = some (ys[1]'(by rw [hyl]; decide)) := (hfd 1 fd_84_1 rfl).trans (List.getElem?_eq_getElem _)
  obtain ⟨u1, e1, r1⟩ := (inferInstance : Opn Try.prog 82 (Int) _ _).opn h1
  rw [show Try.prog.cellsOf 82 = 1 by kernel_rfl] at e1
  have h2 : DataW.trod enc Try.prog W 0 (fun _ => true) true n' 3 ((cs.drop 2).take (Try.prog.cellsOf 3)) = some (ys[2]'(by rw [hyl]; decide)) := (hfd 2 fd_84_2 rfl).trans (List.getElem?_eq_getElem _)
  obtain ⟨u2, e2, r2⟩ := (inferInstance : Opn Try.prog 3 (Int) _ _).opn h2
  rw [show Try.prog.cellsOf 3 = 1 by kernel_rfl] at e2
  refine ⟨⟨u0, u1, u2⟩, ?_, r0, r1, r2⟩
  have hcs : cs = (cs.drop 0).take 1 ++ ((cs.drop 1).take 1 ++ ((cs.drop 2).take 1 ++ (cs.drop 3))) := by
    conv => lhs; rw [← List.drop_zero (l := cs)]
    conv => lhs; rw [cut_drop cs 0 1]
    conv => lhs; arg 2; rw [cut_drop cs 1 1]
    conv => lhs; arg 2; arg 2; rw [cut_drop cs 2 1]
  rw [show cs.drop 3 = [] from List.drop_eq_nil_of_le (by omega)] at hcs
  refine hcs.trans ?_
  rw [e0, e1, e2]; rfl⟩
instance : Opn Try.prog 45 (Sl SsaArray) (by infer_instance) (by infer_instance) := opn_slice U_45 inferInstance (by kernel_rfl)
instance : Opn Try.prog 46 (Sl SsaFunc) (by infer_instance) (by infer_instance) := opn_slice U_46 inferInstance (by kernel_rfl)
instance : Opn Try.prog 48 SsaProg (by infer_instance) (by infer_instance) := ⟨fun {H enc W fuel cs x} h => by
  obtain ⟨ys, n', _, _, hlen, hyl, hfd⟩ := DataW.trod_struct U_48 h
  have hlen : cs.length = 3 := hlen.trans (by kernel_rfl)
  have hyl : ys.length = 3 := hyl
  have h0 : DataW.trod enc Try.prog W 0 (fun _ => true) true n' 45 ((cs.drop 0).take (Try.prog.cellsOf 45)) = some (ys[0]'(by rw [hyl]; decide)) := (hfd 0 fd_48_0 rfl).trans (List.getElem?_eq_getElem _)
  obtain ⟨u0, e0, r0⟩ := (inferInstance : Opn Try.prog 45 (Sl SsaArray) _ _).opn h0
  rw [show Try.prog.cellsOf 45 = 1 by kernel_rfl] at e0
  have h1 : DataW.trod enc Try.prog W 0 (fun _ => true) true n' 46 ((cs.drop 1).take (Try.prog.cellsOf 46)) = some (ys[1]'(by rw [hyl]; decide)) := (hfd 1 fd_48_1 rfl).trans (List.getElem?_eq_getElem _)
  obtain ⟨u1, e1, r1⟩ := (inferInstance : Opn Try.prog 46 (Sl SsaFunc) _ _).opn h1
  rw [show Try.prog.cellsOf 46 = 1 by kernel_rfl] at e1
  have h2 : DataW.trod enc Try.prog W 0 (fun _ => true) true n' 3 ((cs.drop 2).take (Try.prog.cellsOf 3)) = some (ys[2]'(by rw [hyl]; decide)) := (hfd 2 fd_48_2 rfl).trans (List.getElem?_eq_getElem _)
  obtain ⟨u2, e2, r2⟩ := (inferInstance : Opn Try.prog 3 (Int) _ _).opn h2
  rw [show Try.prog.cellsOf 3 = 1 by kernel_rfl] at e2
  refine ⟨⟨u0, u1, u2⟩, ?_, r0, r1, r2⟩
  have hcs : cs = (cs.drop 0).take 1 ++ ((cs.drop 1).take 1 ++ ((cs.drop 2).take 1 ++ (cs.drop 3))) := by
    conv => lhs; rw [← List.drop_zero (l := cs)]
    conv => lhs; rw [cut_drop cs 0 1]
    conv => lhs; arg 2; rw [cut_drop cs 1 1]
    conv => lhs; arg 2; arg 2; rw [cut_drop cs 2 1]
  rw [show cs.drop 3 = [] from List.drop_eq_nil_of_le (by omega)] at hcs
  refine hcs.trans ?_
  rw [e0, e1, e2]; rfl⟩
instance : Opn Try.prog 59 (Sl Bool) (by infer_instance) (by infer_instance) := opn_slice U_59 inferInstance (by kernel_rfl)
instance : Opn Try.prog 61 (Sl (Sl Int)) (by infer_instance) (by infer_instance) := opn_slice U_61 inferInstance (by kernel_rfl)
instance : Opn Try.prog 78 FlowGraph (by infer_instance) (by infer_instance) := ⟨fun {H enc W fuel cs x} h => by
  obtain ⟨ys, n', _, _, hlen, hyl, hfd⟩ := DataW.trod_struct U_78 h
  have hlen : cs.length = 3 := hlen.trans (by kernel_rfl)
  have hyl : ys.length = 3 := hyl
  have h0 : DataW.trod enc Try.prog W 0 (fun _ => true) true n' 61 ((cs.drop 0).take (Try.prog.cellsOf 61)) = some (ys[0]'(by rw [hyl]; decide)) := (hfd 0 fd_78_0 rfl).trans (List.getElem?_eq_getElem _)
  obtain ⟨u0, e0, r0⟩ := (inferInstance : Opn Try.prog 61 (Sl (Sl Int)) _ _).opn h0
  rw [show Try.prog.cellsOf 61 = 1 by kernel_rfl] at e0
  have h1 : DataW.trod enc Try.prog W 0 (fun _ => true) true n' 61 ((cs.drop 1).take (Try.prog.cellsOf 61)) = some (ys[1]'(by rw [hyl]; decide)) := (hfd 1 fd_78_1 rfl).trans (List.getElem?_eq_getElem _)
  obtain ⟨u1, e1, r1⟩ := (inferInstance : Opn Try.prog 61 (Sl (Sl Int)) _ _).opn h1
  rw [show Try.prog.cellsOf 61 = 1 by kernel_rfl] at e1
  have h2 : DataW.trod enc Try.prog W 0 (fun _ => true) true n' 59 ((cs.drop 2).take (Try.prog.cellsOf 59)) = some (ys[2]'(by rw [hyl]; decide)) := (hfd 2 fd_78_2 rfl).trans (List.getElem?_eq_getElem _)
  obtain ⟨u2, e2, r2⟩ := (inferInstance : Opn Try.prog 59 (Sl Bool) _ _).opn h2
  rw [show Try.prog.cellsOf 59 = 1 by kernel_rfl] at e2
  refine ⟨⟨u0, u1, u2⟩, ?_, r0, r1, r2⟩
  have hcs : cs = (cs.drop 0).take 1 ++ ((cs.drop 1).take 1 ++ ((cs.drop 2).take 1 ++ (cs.drop 3))) := by
    conv => lhs; rw [← List.drop_zero (l := cs)]
    conv => lhs; rw [cut_drop cs 0 1]
    conv => lhs; arg 2; rw [cut_drop cs 1 1]
    conv => lhs; arg 2; arg 2; rw [cut_drop cs 2 1]
  rw [show cs.drop 3 = [] from List.drop_eq_nil_of_le (by omega)] at hcs
  refine hcs.trans ?_
  rw [e0, e1, e2]; rfl⟩
instance : Opn Try.prog 107 (Iof .u32) (by infer_instance) (by infer_instance) := opn_iof U_107
theorem foI : Try.prog.follows .mixedOrders = true := by kernel_rfl
instance : IsFc Try.prog 3 := ⟨_, F_3⟩
instance : IsFc Try.prog 4 := ⟨_, F_4⟩
instance : IsFc Try.prog 5 := ⟨_, F_5⟩
instance : IsFc Try.prog 6 := ⟨_, F_6⟩
instance : IsFc Try.prog 7 := ⟨_, F_7⟩
instance : IsFc Try.prog 8 := ⟨_, F_8⟩
instance : IsFc Try.prog 9 := ⟨_, F_9⟩
instance : IsFc Try.prog 10 := ⟨_, F_10⟩
instance : IsFc Try.prog 11 := ⟨_, F_11⟩
instance : IsFc Try.prog 12 := ⟨_, F_12⟩
instance : IsFc Try.prog 13 := ⟨_, F_13⟩
instance : IsFc Try.prog 14 := ⟨_, F_14⟩
instance : IsFc Try.prog 15 := ⟨_, F_15⟩
instance : IsFc Try.prog 16 := ⟨_, F_16⟩
instance : IsFc Try.prog 17 := ⟨_, F_17⟩
instance : IsFc Try.prog 18 := ⟨_, F_18⟩
instance : IsFc Try.prog 19 := ⟨_, F_19⟩
instance : IsFc Try.prog 20 := ⟨_, F_20⟩
instance : IsFc Try.prog 21 := ⟨_, F_21⟩
instance : IsFc Try.prog 22 := ⟨_, F_22⟩
instance : IsFc Try.prog 23 := ⟨_, F_23⟩
instance : IsFc Try.prog 24 := ⟨_, F_24⟩
instance : IsFc Try.prog 25 := ⟨_, F_25⟩
instance : IsFc Try.prog 26 := ⟨_, F_26⟩
instance : IsFc Try.prog 27 := ⟨_, F_27⟩
instance : IsFc Try.prog 28 := ⟨_, F_28⟩
instance : IsFc Try.prog 29 := ⟨_, F_29⟩
instance : IsFc Try.prog 30 := ⟨_, F_30⟩
instance : IsFc Try.prog 31 := ⟨_, F_31⟩
instance : IsFc Try.prog 32 := ⟨_, F_32⟩
instance : IsFc Try.prog 33 := ⟨_, F_33⟩
instance : IsFc Try.prog 34 := ⟨_, F_34⟩
instance : IsFc Try.prog 35 := ⟨_, F_35⟩
instance : IsFc Try.prog 36 := ⟨_, F_36⟩
instance : IsFc Try.prog 37 := ⟨_, F_37⟩
instance : IsFc Try.prog 38 := ⟨_, F_38⟩
instance : IsFc Try.prog 39 := ⟨_, F_39⟩
instance : IsFc Try.prog 40 := ⟨_, F_40⟩
instance : IsFc Try.prog 41 := ⟨_, F_41⟩
instance : IsFc Try.prog 42 := ⟨_, F_42⟩
instance : IsFc Try.prog 43 := ⟨_, F_43⟩
instance : IsFc Try.prog 44 := ⟨_, F_44⟩
instance : IsFc Try.prog 45 := ⟨_, F_45⟩
instance : IsFc Try.prog 46 := ⟨_, F_46⟩
instance : IsFc Try.prog 47 := ⟨_, F_47⟩
instance : IsFc Try.prog 48 := ⟨_, F_48⟩
end Go.Proofs.Ytfplmdjlgjgbgaa
