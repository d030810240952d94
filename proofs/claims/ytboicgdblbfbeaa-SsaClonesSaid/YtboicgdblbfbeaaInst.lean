/- The types of this program, as Lean types (written by a program). -/
import Derived.Test.YtboicgdblbfbeaaA9
import Derived.Test.YtboicgdblbfbeaaFacts
namespace Go.Proofs.Ytboicgdblbfbeaa
set_option linter.unusedVariables false
set_option linter.unusedSimpArgs false
open Go Go.RowKit

structure SsaArray where
  fName : Str
  fHold : Int
  fSize : Int
instance : Enc SsaArray where
  enc := fun x => [.string x.fName.v, .int .i64 x.fHold, .int .i64 x.fSize]
  sz := 3
  dflt := ⟨Enc.dflt, Enc.dflt, Enc.dflt⟩
  len := fun _ => rfl
  one := by
    intro x u h
    simp only [List.mem_cons, List.not_mem_nil, or_false] at h
    rcases h with rfl | rfl | rfl <;> rfl
  pos := by decide
instance : Dp SsaArray where
  rd := fun ok w x => Dp.rd ok w x.fName ∧ Dp.rd ok w x.fHold ∧ Dp.rd ok w x.fSize
  loc := fun h hk => ⟨Dp.loc h.1 hk, Dp.loc h.2.1 hk, Dp.loc h.2.2 hk⟩
  dflt := fun ok w => ⟨Dp.dflt ok w, Dp.dflt ok w, Dp.dflt ok w⟩
instance {ok : FP} {w : World} {x : SsaArray} [h : RdD ok w x] : RdD ok w x.fName := ⟨h.h.1⟩
instance {ok : FP} {w : World} {x : SsaArray} [h : RdD ok w x] : RdD ok w x.fHold := ⟨h.h.2.1⟩
instance {ok : FP} {w : World} {x : SsaArray} [h : RdD ok w x] : RdD ok w x.fSize := ⟨h.h.2.2⟩
structure SsaIns where
  fOp : Int
  fDst : Int
  fArgs : Sl Int
  fNum : Int
  fBin : Int
  fArr : Int
  fFn : Int
instance : Enc SsaIns where
  enc := fun x => [.int .i64 x.fOp, .int .i64 x.fDst, .slice x.fArgs.A x.fArgs.xs.length x.fArgs.c, .int .i64 x.fNum, .int .i64 x.fBin, .int .i64 x.fArr, .int .i64 x.fFn]
  sz := 7
  dflt := ⟨Enc.dflt, Enc.dflt, Enc.dflt, Enc.dflt, Enc.dflt, Enc.dflt, Enc.dflt⟩
  len := fun _ => rfl
  one := by
    intro x u h
    simp only [List.mem_cons, List.not_mem_nil, or_false] at h
    rcases h with rfl | rfl | rfl | rfl | rfl | rfl | rfl <;> rfl
  pos := by decide
instance : Dp SsaIns where
  rd := fun ok w x => Dp.rd ok w x.fOp ∧ Dp.rd ok w x.fDst ∧ Dp.rd ok w x.fArgs ∧ Dp.rd ok w x.fNum ∧ Dp.rd ok w x.fBin ∧ Dp.rd ok w x.fArr ∧ Dp.rd ok w x.fFn
  loc := fun h hk => ⟨Dp.loc h.1 hk, Dp.loc h.2.1 hk, Dp.loc h.2.2.1 hk, Dp.loc h.2.2.2.1 hk, Dp.loc h.2.2.2.2.1 hk, Dp.loc h.2.2.2.2.2.1 hk, Dp.loc h.2.2.2.2.2.2 hk⟩
  dflt := fun ok w => ⟨Dp.dflt ok w, Dp.dflt ok w, Dp.dflt ok w, Dp.dflt ok w, Dp.dflt ok w, Dp.dflt ok w, Dp.dflt ok w⟩
instance {ok : FP} {w : World} {x : SsaIns} [h : RdD ok w x] : RdD ok w x.fOp := ⟨h.h.1⟩
instance {ok : FP} {w : World} {x : SsaIns} [h : RdD ok w x] : RdD ok w x.fDst := ⟨h.h.2.1⟩
instance {ok : FP} {w : World} {x : SsaIns} [h : RdD ok w x] : RdD ok w x.fArgs := ⟨h.h.2.2.1⟩
instance {ok : FP} {w : World} {x : SsaIns} [h : RdD ok w x] : RdD ok w x.fNum := ⟨h.h.2.2.2.1⟩
instance {ok : FP} {w : World} {x : SsaIns} [h : RdD ok w x] : RdD ok w x.fBin := ⟨h.h.2.2.2.2.1⟩
instance {ok : FP} {w : World} {x : SsaIns} [h : RdD ok w x] : RdD ok w x.fArr := ⟨h.h.2.2.2.2.2.1⟩
instance {ok : FP} {w : World} {x : SsaIns} [h : RdD ok w x] : RdD ok w x.fFn := ⟨h.h.2.2.2.2.2.2⟩
structure SsaEdge where
  fTo : Int
  fArgs : Sl Int
instance : Enc SsaEdge where
  enc := fun x => [.int .i64 x.fTo, .slice x.fArgs.A x.fArgs.xs.length x.fArgs.c]
  sz := 2
  dflt := ⟨Enc.dflt, Enc.dflt⟩
  len := fun _ => rfl
  one := by
    intro x u h
    simp only [List.mem_cons, List.not_mem_nil, or_false] at h
    rcases h with rfl | rfl <;> rfl
  pos := by decide
instance : Dp SsaEdge where
  rd := fun ok w x => Dp.rd ok w x.fTo ∧ Dp.rd ok w x.fArgs
  loc := fun h hk => ⟨Dp.loc h.1 hk, Dp.loc h.2 hk⟩
  dflt := fun ok w => ⟨Dp.dflt ok w, Dp.dflt ok w⟩
instance {ok : FP} {w : World} {x : SsaEdge} [h : RdD ok w x] : RdD ok w x.fTo := ⟨h.h.1⟩
instance {ok : FP} {w : World} {x : SsaEdge} [h : RdD ok w x] : RdD ok w x.fArgs := ⟨h.h.2⟩
structure SsaEnd where
  fKind : Int
  fVal : Int
  fWays : Sl SsaEdge
  fTrap : Int
instance : Enc SsaEnd where
  enc := fun x => [.int .i64 x.fKind, .int .i64 x.fVal, .slice x.fWays.A x.fWays.xs.length x.fWays.c, .int .i64 x.fTrap]
  sz := 4
  dflt := ⟨Enc.dflt, Enc.dflt, Enc.dflt, Enc.dflt⟩
  len := fun _ => rfl
  one := by
    intro x u h
    simp only [List.mem_cons, List.not_mem_nil, or_false] at h
    rcases h with rfl | rfl | rfl | rfl <;> rfl
  pos := by decide
instance : Dp SsaEnd where
  rd := fun ok w x => Dp.rd ok w x.fKind ∧ Dp.rd ok w x.fVal ∧ Dp.rd ok w x.fWays ∧ Dp.rd ok w x.fTrap
  loc := fun h hk => ⟨Dp.loc h.1 hk, Dp.loc h.2.1 hk, Dp.loc h.2.2.1 hk, Dp.loc h.2.2.2 hk⟩
  dflt := fun ok w => ⟨Dp.dflt ok w, Dp.dflt ok w, Dp.dflt ok w, Dp.dflt ok w⟩
instance {ok : FP} {w : World} {x : SsaEnd} [h : RdD ok w x] : RdD ok w x.fKind := ⟨h.h.1⟩
instance {ok : FP} {w : World} {x : SsaEnd} [h : RdD ok w x] : RdD ok w x.fVal := ⟨h.h.2.1⟩
instance {ok : FP} {w : World} {x : SsaEnd} [h : RdD ok w x] : RdD ok w x.fWays := ⟨h.h.2.2.1⟩
instance {ok : FP} {w : World} {x : SsaEnd} [h : RdD ok w x] : RdD ok w x.fTrap := ⟨h.h.2.2.2⟩
structure SsaBlock where
  fParams : Sl Int
  fIns : Sl SsaIns
  fEnd : SsaEnd
instance : Enc SsaBlock where
  enc := fun x => [.slice x.fParams.A x.fParams.xs.length x.fParams.c, .slice x.fIns.A x.fIns.xs.length x.fIns.c, .int .i64 x.fEnd.fKind, .int .i64 x.fEnd.fVal, .slice x.fEnd.fWays.A x.fEnd.fWays.xs.length x.fEnd.fWays.c, .int .i64 x.fEnd.fTrap]
  sz := 6
  dflt := ⟨Enc.dflt, Enc.dflt, Enc.dflt⟩
  len := fun _ => rfl
  one := by
    intro x u h
    simp only [List.mem_cons, List.not_mem_nil, or_false] at h
    rcases h with rfl | rfl | rfl | rfl | rfl | rfl <;> rfl
  pos := by decide
instance : Dp SsaBlock where
  rd := fun ok w x => Dp.rd ok w x.fParams ∧ Dp.rd ok w x.fIns ∧ Dp.rd ok w x.fEnd
  loc := fun h hk => ⟨Dp.loc h.1 hk, Dp.loc h.2.1 hk, Dp.loc h.2.2 hk⟩
  dflt := fun ok w => ⟨Dp.dflt ok w, Dp.dflt ok w, Dp.dflt ok w⟩
instance {ok : FP} {w : World} {x : SsaBlock} [h : RdD ok w x] : RdD ok w x.fParams := ⟨h.h.1⟩
instance {ok : FP} {w : World} {x : SsaBlock} [h : RdD ok w x] : RdD ok w x.fIns := ⟨h.h.2.1⟩
instance {ok : FP} {w : World} {x : SsaBlock} [h : RdD ok w x] : RdD ok w x.fEnd := ⟨h.h.2.2⟩
structure SsaFunc where
  fName : Str
  fBlocks : Sl SsaBlock
instance : Enc SsaFunc where
  enc := fun x => [.string x.fName.v, .slice x.fBlocks.A x.fBlocks.xs.length x.fBlocks.c]
  sz := 2
  dflt := ⟨Enc.dflt, Enc.dflt⟩
  len := fun _ => rfl
  one := by
    intro x u h
    simp only [List.mem_cons, List.not_mem_nil, or_false] at h
    rcases h with rfl | rfl <;> rfl
  pos := by decide
instance : Dp SsaFunc where
  rd := fun ok w x => Dp.rd ok w x.fName ∧ Dp.rd ok w x.fBlocks
  loc := fun h hk => ⟨Dp.loc h.1 hk, Dp.loc h.2 hk⟩
  dflt := fun ok w => ⟨Dp.dflt ok w, Dp.dflt ok w⟩
instance {ok : FP} {w : World} {x : SsaFunc} [h : RdD ok w x] : RdD ok w x.fName := ⟨h.h.1⟩
instance {ok : FP} {w : World} {x : SsaFunc} [h : RdD ok w x] : RdD ok w x.fBlocks := ⟨h.h.2⟩
structure SsaProg where
  fArrays : Sl SsaArray
  fFuncs : Sl SsaFunc
  fMain : Int
instance : Enc SsaProg where
  enc := fun x => [.slice x.fArrays.A x.fArrays.xs.length x.fArrays.c, .slice x.fFuncs.A x.fFuncs.xs.length x.fFuncs.c, .int .i64 x.fMain]
  sz := 3
  dflt := ⟨Enc.dflt, Enc.dflt, Enc.dflt⟩
  len := fun _ => rfl
  one := by
    intro x u h
    simp only [List.mem_cons, List.not_mem_nil, or_false] at h
    rcases h with rfl | rfl | rfl <;> rfl
  pos := by decide
instance : Dp SsaProg where
  rd := fun ok w x => Dp.rd ok w x.fArrays ∧ Dp.rd ok w x.fFuncs ∧ Dp.rd ok w x.fMain
  loc := fun h hk => ⟨Dp.loc h.1 hk, Dp.loc h.2.1 hk, Dp.loc h.2.2 hk⟩
  dflt := fun ok w => ⟨Dp.dflt ok w, Dp.dflt ok w, Dp.dflt ok w⟩
instance {ok : FP} {w : World} {x : SsaProg} [h : RdD ok w x] : RdD ok w x.fArrays := ⟨h.h.1⟩
instance {ok : FP} {w : World} {x : SsaProg} [h : RdD ok w x] : RdD ok w x.fFuncs := ⟨h.h.2.1⟩
instance {ok : FP} {w : World} {x : SsaProg} [h : RdD ok w x] : RdD ok w x.fMain := ⟨h.h.2.2⟩
instance : C1 Try.prog 2 := ⟨T1_2⟩
instance : Elt Try.prog 2 (Int) (by infer_instance) 1 8 := ⟨⟨_, TI_2, rfl⟩, rfl⟩
instance : Ekc Try.prog 2 Int (ekInt U_2) := ⟨TI_2.zero, fun _ => rfl⟩
instance : C1 Try.prog 3 := ⟨T1_3⟩
instance : Elt Try.prog 3 (Int) (by infer_instance) 1 8 := ⟨⟨_, TI_3, rfl⟩, rfl⟩
instance : Ekc Try.prog 3 Int (ekInt U_3) := ⟨TI_3.zero, fun _ => rfl⟩
instance : C1 Try.prog 4 := ⟨T1_4⟩
instance : Elt Try.prog 4 (Bool) (by infer_instance) 1 1 := ⟨⟨_, TI_4, rfl⟩, rfl⟩
instance : Ekc Try.prog 4 Bool (ekBool U_4) := ⟨TI_4.zero, fun _ => rfl⟩
instance : BoT Try.prog 4 := ⟨U_4⟩
instance : C1 Try.prog 5 := ⟨T1_5⟩
instance : Elt Try.prog 5 (Iof .u8) (by infer_instance) 1 1 := ⟨⟨_, TI_5, rfl⟩, rfl⟩
instance : C1 Try.prog 9 := ⟨T1_9⟩
instance : Elt Try.prog 9 (Str) (by infer_instance) 1 16 := ⟨⟨_, TI_9, rfl⟩, rfl⟩
instance : C1 Try.prog 12 := ⟨T1_12⟩
instance : Elt Try.prog 12 (Iof .u64) (by infer_instance) 1 8 := ⟨⟨_, TI_12, rfl⟩, rfl⟩
instance : CA Try.prog 13 2 := ⟨TA_13⟩
instance : C1 Try.prog 21 := ⟨T1_21⟩
instance : Elt Try.prog 21 (Iof .i32) (by infer_instance) 1 4 := ⟨⟨_, TI_21, rfl⟩, rfl⟩
instance : C1 Try.prog 23 := ⟨T1_23⟩
instance : Elt Try.prog 23 (Sl SsaArray) (by infer_instance) 1 24 := ⟨⟨_, TI_23, rfl⟩, rfl⟩
instance : SlT Try.prog 23 29 := ⟨U_23⟩
instance : C1 Try.prog 24 := ⟨T1_24⟩
instance : Elt Try.prog 24 (Sl SsaFunc) (by infer_instance) 1 24 := ⟨⟨_, TI_24, rfl⟩, rfl⟩
instance : SlT Try.prog 24 47 := ⟨U_24⟩
instance : CA Try.prog 25 3 := ⟨TA_25⟩
instance : CA Try.prog 26 3 := ⟨TA_26⟩
instance : Elt Try.prog 26 (SsaProg) (by infer_instance) 3 56 := ⟨⟨_, TI_26, rfl⟩, rfl⟩
instance : FldT Try.prog 26 0 0 := ⟨_, fd_26_0, 0, U_26, rfl, rfl, T1_23.sz⟩
instance : FldT Try.prog 26 1 1 := ⟨_, fd_26_1, 0, U_26, rfl, rfl, T1_24.sz⟩
instance : FldT Try.prog 26 2 2 := ⟨_, fd_26_2, 0, U_26, rfl, rfl, T1_3.sz⟩
instance : C1 Try.prog 27 := ⟨T1_27⟩
instance : Elt Try.prog 27 (Int) (by infer_instance) 1 8 := ⟨⟨_, TI_27, rfl⟩, rfl⟩
instance : Ekc Try.prog 27 Int (ekInt U_27) := ⟨TI_27.zero, fun _ => rfl⟩
instance : CA Try.prog 28 3 := ⟨TA_28⟩
instance : CA Try.prog 29 3 := ⟨TA_29⟩
instance : Elt Try.prog 29 (SsaArray) (by infer_instance) 3 32 := ⟨⟨_, TI_29, rfl⟩, rfl⟩
instance : FldT Try.prog 29 0 0 := ⟨_, fd_29_0, 0, U_29, rfl, rfl, T1_9.sz⟩
instance : FldT Try.prog 29 1 1 := ⟨_, fd_29_1, 0, U_29, rfl, rfl, T1_27.sz⟩
instance : FldT Try.prog 29 2 2 := ⟨_, fd_29_2, 0, U_29, rfl, rfl, T1_3.sz⟩
instance : C1 Try.prog 30 := ⟨T1_30⟩
instance : Elt Try.prog 30 (Int) (by infer_instance) 1 8 := ⟨⟨_, TI_30, rfl⟩, rfl⟩
instance : Ekc Try.prog 30 Int (ekInt U_30) := ⟨TI_30.zero, fun _ => rfl⟩
instance : C1 Try.prog 31 := ⟨T1_31⟩
instance : Elt Try.prog 31 (Sl Int) (by infer_instance) 1 24 := ⟨⟨_, TI_31, rfl⟩, rfl⟩
instance : SlT Try.prog 31 3 := ⟨U_31⟩
instance : C1 Try.prog 32 := ⟨T1_32⟩
instance : Elt Try.prog 32 (Int) (by infer_instance) 1 8 := ⟨⟨_, TI_32, rfl⟩, rfl⟩
instance : Ekc Try.prog 32 Int (ekInt U_32) := ⟨TI_32.zero, fun _ => rfl⟩
instance : CA Try.prog 33 7 := ⟨TA_33⟩
instance : CA Try.prog 34 7 := ⟨TA_34⟩
instance : Elt Try.prog 34 (SsaIns) (by infer_instance) 7 72 := ⟨⟨_, TI_34, rfl⟩, rfl⟩
instance : FldT Try.prog 34 0 0 := ⟨_, fd_34_0, 0, U_34, rfl, rfl, T1_30.sz⟩
instance : FldT Try.prog 34 1 1 := ⟨_, fd_34_1, 0, U_34, rfl, rfl, T1_3.sz⟩
instance : FldT Try.prog 34 2 2 := ⟨_, fd_34_2, 0, U_34, rfl, rfl, T1_31.sz⟩
instance : FldT Try.prog 34 3 3 := ⟨_, fd_34_3, 0, U_34, rfl, rfl, T1_2.sz⟩
instance : FldT Try.prog 34 4 4 := ⟨_, fd_34_4, 0, U_34, rfl, rfl, T1_32.sz⟩
instance : FldT Try.prog 34 5 5 := ⟨_, fd_34_5, 0, U_34, rfl, rfl, T1_3.sz⟩
instance : FldT Try.prog 34 6 6 := ⟨_, fd_34_6, 0, U_34, rfl, rfl, T1_3.sz⟩
instance : C1 Try.prog 35 := ⟨T1_35⟩
instance : Elt Try.prog 35 (Sl SsaIns) (by infer_instance) 1 24 := ⟨⟨_, TI_35, rfl⟩, rfl⟩
instance : SlT Try.prog 35 34 := ⟨U_35⟩
instance : C1 Try.prog 36 := ⟨T1_36⟩
instance : Elt Try.prog 36 (Int) (by infer_instance) 1 8 := ⟨⟨_, TI_36, rfl⟩, rfl⟩
instance : Ekc Try.prog 36 Int (ekInt U_36) := ⟨TI_36.zero, fun _ => rfl⟩
instance : CA Try.prog 37 2 := ⟨TA_37⟩
instance : CA Try.prog 38 2 := ⟨TA_38⟩
instance : Elt Try.prog 38 (SsaEdge) (by infer_instance) 2 32 := ⟨⟨_, TI_38, rfl⟩, rfl⟩
instance : FldT Try.prog 38 0 0 := ⟨_, fd_38_0, 0, U_38, rfl, rfl, T1_3.sz⟩
instance : FldT Try.prog 38 1 1 := ⟨_, fd_38_1, 0, U_38, rfl, rfl, T1_31.sz⟩
instance : C1 Try.prog 39 := ⟨T1_39⟩
instance : Elt Try.prog 39 (Sl SsaEdge) (by infer_instance) 1 24 := ⟨⟨_, TI_39, rfl⟩, rfl⟩
instance : SlT Try.prog 39 38 := ⟨U_39⟩
instance : C1 Try.prog 40 := ⟨T1_40⟩
instance : Elt Try.prog 40 (Int) (by infer_instance) 1 8 := ⟨⟨_, TI_40, rfl⟩, rfl⟩
instance : Ekc Try.prog 40 Int (ekInt U_40) := ⟨TI_40.zero, fun _ => rfl⟩
instance : CA Try.prog 41 4 := ⟨TA_41⟩
instance : CA Try.prog 42 4 := ⟨TA_42⟩
instance : Elt Try.prog 42 (SsaEnd) (by infer_instance) 4 48 := ⟨⟨_, TI_42, rfl⟩, rfl⟩
instance : FldT Try.prog 42 0 0 := ⟨_, fd_42_0, 0, U_42, rfl, rfl, T1_36.sz⟩
instance : FldT Try.prog 42 1 1 := ⟨_, fd_42_1, 0, U_42, rfl, rfl, T1_3.sz⟩
instance : FldT Try.prog 42 2 2 := ⟨_, fd_42_2, 0, U_42, rfl, rfl, T1_39.sz⟩
instance : FldT Try.prog 42 3 3 := ⟨_, fd_42_3, 0, U_42, rfl, rfl, T1_40.sz⟩
instance : CA Try.prog 43 6 := ⟨TA_43⟩
instance : CA Try.prog 44 6 := ⟨TA_44⟩
instance : Elt Try.prog 44 (SsaBlock) (by infer_instance) 6 96 := ⟨⟨_, TI_44, rfl⟩, rfl⟩
instance : FldT Try.prog 44 0 0 := ⟨_, fd_44_0, 0, U_44, rfl, rfl, T1_31.sz⟩
instance : FldT Try.prog 44 1 1 := ⟨_, fd_44_1, 0, U_44, rfl, rfl, T1_35.sz⟩
instance : FldT Try.prog 44 2 2 := ⟨_, fd_44_2, 3, U_44, rfl, rfl, TA_42.sz⟩
instance : C1 Try.prog 45 := ⟨T1_45⟩
instance : Elt Try.prog 45 (Sl SsaBlock) (by infer_instance) 1 24 := ⟨⟨_, TI_45, rfl⟩, rfl⟩
instance : SlT Try.prog 45 44 := ⟨U_45⟩
instance : CA Try.prog 46 2 := ⟨TA_46⟩
instance : CA Try.prog 47 2 := ⟨TA_47⟩
instance : Elt Try.prog 47 (SsaFunc) (by infer_instance) 2 40 := ⟨⟨_, TI_47, rfl⟩, rfl⟩
instance : FldT Try.prog 47 0 0 := ⟨_, fd_47_0, 0, U_47, rfl, rfl, T1_9.sz⟩
instance : FldT Try.prog 47 1 1 := ⟨_, fd_47_1, 0, U_47, rfl, rfl, T1_45.sz⟩
instance : C1 Try.prog 49 := ⟨T1_49⟩
instance : Elt Try.prog 49 (Int) (by infer_instance) 1 8 := ⟨⟨_, TI_49, rfl⟩, rfl⟩
instance : Ekc Try.prog 49 Int (ekInt U_49) := ⟨TI_49.zero, fun _ => rfl⟩
instance : C1 Try.prog 51 := ⟨T1_51⟩
instance : Elt Try.prog 51 (Iof .u64) (by infer_instance) 1 8 := ⟨⟨_, TI_51, rfl⟩, rfl⟩
instance : C1 Try.prog 61 := ⟨T1_61⟩
instance : Elt Try.prog 61 (Sl Mr) (by infer_instance) 1 24 := ⟨⟨_, TI_61, rfl⟩, rfl⟩
instance : SlT Try.prog 61 63 := ⟨U_61⟩
instance : C1 Try.prog 63 := ⟨T1_63⟩
instance : Elt Try.prog 63 (Mr) (by infer_instance) 1 8 := ⟨⟨_, TI_63, rfl⟩, rfl⟩
instance : MpT Try.prog 63 3 4 := ⟨U_63, U_3⟩
instance : C1 Try.prog 69 := ⟨T1_69⟩
instance : Elt Try.prog 69 (Mr) (by infer_instance) 1 8 := ⟨⟨_, TI_69, rfl⟩, rfl⟩
instance : MpT Try.prog 69 36 3 := ⟨U_69, U_36⟩
instance : C1 Try.prog 73 := ⟨T1_73⟩
instance : Elt Try.prog 73 (Sl Bool) (by infer_instance) 1 24 := ⟨⟨_, TI_73, rfl⟩, rfl⟩
instance : SlT Try.prog 73 4 := ⟨U_73⟩
instance : C1 Try.prog 90 := ⟨T1_90⟩
instance : Elt Try.prog 90 (Iof .u32) (by infer_instance) 1 4 := ⟨⟨_, TI_90, rfl⟩, rfl⟩
instance : C1 Try.prog 94 := ⟨T1_94⟩
instance : Elt Try.prog 94 (Pr) (by infer_instance) 1 8 := ⟨⟨_, TI_94, rfl⟩, rfl⟩
instance : PtT Try.prog 94 := ⟨_, U_94⟩
instance : Opn Try.prog 2 (Int) (by infer_instance) (by infer_instance) := opn_int U_2
instance : Opn Try.prog 3 (Int) (by infer_instance) (by infer_instance) := opn_int U_3
instance : Opn Try.prog 4 (Bool) (by infer_instance) (by infer_instance) := opn_bool U_4
instance : Opn Try.prog 5 (Iof .u8) (by infer_instance) (by infer_instance) := opn_iof U_5
instance : Opn Try.prog 9 (Str) (by infer_instance) (by infer_instance) := opn_str U_9
instance : Opn Try.prog 12 (Iof .u64) (by infer_instance) (by infer_instance) := opn_iof U_12
instance : Opn Try.prog 21 (Iof .i32) (by infer_instance) (by infer_instance) := opn_iof U_21
instance : Opn Try.prog 27 (Int) (by infer_instance) (by infer_instance) := opn_int U_27
instance : Opn Try.prog 29 SsaArray (by infer_instance) (by infer_instance) := ⟨fun {H enc W fuel cs x} h => by
  obtain ⟨ys, n', _, _, hlen, hyl, hfd⟩ := DataW.trod_struct U_29 h
  have hlen : cs.length = 3 := hlen.trans (by kernel_rfl)
  have hyl : ys.length = 3 := hyl
  have h0 : DataW.trod enc Try.prog W 0 (fun _ => true) true n' 9 ((cs.drop 0).take (Try.prog.cellsOf 9)) = some (ys[0]'(by rw [hyl]; decide)) := (hfd 0 fd_29_0 rfl).trans (List.getElem?_eq_getElem _)
  obtain ⟨u0, e0, r0⟩ := (inferInstance : Opn Try.prog 9 (Str) _ _).opn h0
  rw [show Try.prog.cellsOf 9 = 1 by kernel_rfl] at e0
  have h1 : DataW.trod enc Try.prog W 0 (fun _ => true) true n' 27 ((cs.drop 1).take (Try.prog.cellsOf 27)) = some (ys[1]'(by rw [hyl]; decide)) := (hfd 1 fd_29_1 rfl).trans (List.getElem?_eq_getElem _)
  obtain ⟨u1, e1, r1⟩ := (inferInstance : Opn Try.prog 27 (Int) _ _).opn h1
  rw [show Try.prog.cellsOf 27 = 1 by kernel_rfl] at e1
  have h2 : DataW.trod enc Try.prog W 0 (fun _ => true) true n' 3 ((cs.drop 2).take (Try.prog.cellsOf 3)) = some (ys[2]'(by rw [hyl]; decide)) := (hfd 2 fd_29_2 rfl).trans (List.getElem?_eq_getElem _)
  obtain ⟨u2, e2, r2⟩ := (inferInstance : Opn Try.prog 3 (Int) _ _).opn h2
  rw [show Try.prog.cellsOf 3 = 1 by kernel_rfl] at e2
  refine ⟨⟨u0, u1, u2⟩, ?_, r0, r1, r2⟩
  have hcs : cs = (cs.drop 0).take 1 ++ ((cs.drop 1).take 1 ++ ((cs.drop 2).take 1 ++ (cs.drop 3))) := by
    conv => lhs; rw [← List.drop_zero (l := cs)]
    conv => lhs; rw [cut_drop cs 0 1]
    conv => lhs; arg 2; rw [cut_drop cs 1 1]
    conv => lhs; arg 2; arg 2; rw [cut_drop cs 2 1]
  rw [show cs.drop 3 = [] from List.drop_eq_nil_of_le (by omega)] at hcs
  refine hcs.trans ?_
  rw [e0, e1, e2]; rfl⟩
instance : Opn Try.prog 23 (Sl SsaArray) (by infer_instance) (by infer_instance) := opn_slice U_23 inferInstance (by kernel_rfl)
instance : Opn Try.prog 31 (Sl Int) (by infer_instance) (by infer_instance) := opn_slice U_31 inferInstance (by kernel_rfl)
instance : Opn Try.prog 30 (Int) (by infer_instance) (by infer_instance) := opn_int U_30
instance : Opn Try.prog 32 (Int) (by infer_instance) (by infer_instance) := opn_int U_32
instance : Opn Try.prog 34 SsaIns (by infer_instance) (by infer_instance) := ⟨fun {H enc W fuel cs x} h => by
  obtain ⟨ys, n', _, _, hlen, hyl, hfd⟩ := DataW.trod_struct U_34 h
  have hlen : cs.length = 7 := hlen.trans (by kernel_rfl)
  have hyl : ys.length = 7 := hyl
  have h0 : DataW.trod enc Try.prog W 0 (fun _ => true) true n' 30 ((cs.drop 0).take (Try.prog.cellsOf 30)) = some (ys[0]'(by rw [hyl]; decide)) := (hfd 0 fd_34_0 rfl).trans (List.getElem?_eq_getElem _)
  obtain ⟨u0, e0, r0⟩ := (inferInstance : Opn Try.prog 30 (Int) _ _).opn h0
  rw [show Try.prog.cellsOf 30 = 1 by kernel_rfl] at e0
  have h1 : DataW.trod enc Try.prog W 0 (fun _ => true) true n' 3 ((cs.drop 1).take (Try.prog.cellsOf 3)) = some (ys[1]'(by rw [hyl]; decide)) := (hfd 1 fd_34_1 rfl).trans (List.getElem?_eq_getElem _)
  obtain ⟨u1, e1, r1⟩ := (inferInstance : Opn Try.prog 3 (Int) _ _).opn h1
  rw [show Try.prog.cellsOf 3 = 1 by kernel_rfl] at e1
  have h2 : DataW.trod enc Try.prog W 0 (fun _ => true) true n' 31 ((cs.drop 2).take (Try.prog.cellsOf 31)) = some (ys[2]'(by rw [hyl]; decide)) := (hfd 2 fd_34_2 rfl).trans (List.getElem?_eq_getElem _)
  obtain ⟨u2, e2, r2⟩ := (inferInstance : Opn Try.prog 31 (Sl Int) _ _).opn h2
  rw [show Try.prog.cellsOf 31 = 1 by kernel_rfl] at e2
  have h3 : DataW.trod enc Try.prog W 0 (fun _ => true) true n' 2 ((cs.drop 3).take (Try.prog.cellsOf 2)) = some (ys[3]'(by rw [hyl]; decide)) := (hfd 3 fd_34_3 rfl).trans (List.getElem?_eq_getElem _)
  obtain ⟨u3, e3, r3⟩ := (inferInstance : Opn Try.prog 2 (Int) _ _).opn h3
  rw [show Try.prog.cellsOf 2 = 1 by kernel_rfl] at e3
  have h4 : DataW.trod enc Try.prog W 0 (fun _ => true) true n' 32 ((cs.drop 4).take (Try.prog.cellsOf 32)) = some (ys[4]'(by rw [hyl]; decide)) := (hfd 4 fd_34_4 rfl).trans (List.getElem?_eq_getElem _)
  obtain ⟨u4, e4, r4⟩ := (inferInstance : Opn Try.prog 32 (Int) _ _).opn h4
  rw [show Try.prog.cellsOf 32 = 1 by kernel_rfl] at e4
  have h5 : DataW.trod enc Try.prog W 0 (fun _ => true) true n' 3 ((cs.drop 5).take (Try.prog.cellsOf 3)) = some (ys[5]'(by rw [hyl]; decide)) := (hfd 5 fd_34_5 rfl).trans (List.getElem?_eq_getElem _)
  obtain ⟨u5, e5, r5⟩ := (inferInstance : Opn Try.prog 3 (Int) _ _).opn h5
  rw [show Try.prog.cellsOf 3 = 1 by kernel_rfl] at e5
  have h6 : DataW.trod enc Try.prog W 0 (fun _ => true) true n' 3 ((cs.drop 6).take (Try.prog.cellsOf 3)) = some (ys[6]'(by rw [hyl]; decide)) := (hfd 6 fd_34_6 rfl).trans (List.getElem?_eq_getElem _)
  obtain ⟨u6, e6, r6⟩ := (inferInstance : Opn Try.prog 3 (Int) _ _).opn h6
  rw [show Try.prog.cellsOf 3 = 1 by kernel_rfl] at e6
  refine ⟨⟨u0, u1, u2, u3, u4, u5, u6⟩, ?_, r0, r1, r2, r3, r4, r5, r6⟩
  have hcs : cs = (cs.drop 0).take 1 ++ ((cs.drop 1).take 1 ++ ((cs.drop 2).take 1 ++ ((cs.drop 3).take 1 ++ ((cs.drop 4).take 1 ++ ((cs.drop 5).take 1 ++ ((cs.drop 6).take 1 ++ (cs.drop 7))))))) := by
    conv => lhs; rw [← List.drop_zero (l := cs)]
    conv => lhs; rw [cut_drop cs 0 1]
    conv => lhs; arg 2; rw [cut_drop cs 1 1]
    conv => lhs; arg 2; arg 2; rw [cut_drop cs 2 1]
    conv => lhs; arg 2; arg 2; arg 2; rw [cut_drop cs 3 1]
    conv => lhs; arg 2; arg 2; arg 2; arg 2; rw [cut_drop cs 4 1]
    conv => lhs; arg 2; arg 2; arg 2; arg 2; arg 2; rw [cut_drop cs 5 1]
    conv => lhs; arg 2; arg 2; arg 2; arg 2; arg 2; arg 2; rw [cut_drop cs 6 1]
  rw [show cs.drop 7 = [] from List.drop_eq_nil_of_le (by omega)] at hcs
  refine hcs.trans ?_
  rw [e0, e1, e2, e3, e4, e5, e6]; rfl⟩
instance : Opn Try.prog 35 (Sl SsaIns) (by infer_instance) (by infer_instance) := opn_slice U_35 inferInstance (by kernel_rfl)
instance : Opn Try.prog 36 (Int) (by infer_instance) (by infer_instance) := opn_int U_36
instance : Opn Try.prog 38 SsaEdge (by infer_instance) (by infer_instance) := ⟨fun {H enc W fuel cs x} h => by
  obtain ⟨ys, n', _, _, hlen, hyl, hfd⟩ := DataW.trod_struct U_38 h
  have hlen : cs.length = 2 := hlen.trans (by kernel_rfl)
  have hyl : ys.length = 2 := hyl
  have h0 : DataW.trod enc Try.prog W 0 (fun _ => true) true n' 3 ((cs.drop 0).take (Try.prog.cellsOf 3)) = some (ys[0]'(by rw [hyl]; decide)) := (hfd 0 fd_38_0 rfl).trans (List.getElem?_eq_getElem _)
  obtain ⟨u0, e0, r0⟩ := (inferInstance : Opn Try.prog 3 (Int) _ _).opn h0
  rw [show Try.prog.cellsOf 3 = 1 by kernel_rfl] at e0
  have h1 : DataW.trod enc Try.prog W 0 (fun _ => true) true n' 31 ((cs.drop 1).take (Try.prog.cellsOf 31)) = some (ys[1]'(by rw [hyl]; decide)) := (hfd 1 fd_38_1 rfl).trans (List.getElem?_eq_getElem _)
  obtain ⟨u1, e1, r1⟩ := (inferInstance : Opn Try.prog 31 (Sl Int) _ _).opn h1
  rw [show Try.prog.cellsOf 31 = 1 by kernel_rfl] at e1
  refine ⟨⟨u0, u1⟩, ?_, r0, r1⟩
  have hcs : cs = (cs.drop 0).take 1 ++ ((cs.drop 1).take 1 ++ (cs.drop 2)) := by
    conv => lhs; rw [← List.drop_zero (l := cs)]
    conv => lhs; rw [cut_drop cs 0 1]
    conv => lhs; arg 2; rw [cut_drop cs 1 1]
  rw [show cs.drop 2 = [] from List.drop_eq_nil_of_le (by omega)] at hcs
  refine hcs.trans ?_
  rw [e0, e1]; rfl⟩
instance : Opn Try.prog 39 (Sl SsaEdge) (by infer_instance) (by infer_instance) := opn_slice U_39 inferInstance (by kernel_rfl)
instance : Opn Try.prog 40 (Int) (by infer_instance) (by infer_instance) := opn_int U_40
instance : Opn Try.prog 42 SsaEnd (by infer_instance) (by infer_instance) := ⟨fun {H enc W fuel cs x} h => by
  obtain ⟨ys, n', _, _, hlen, hyl, hfd⟩ := DataW.trod_struct U_42 h
  have hlen : cs.length = 4 := hlen.trans (by kernel_rfl)
  have hyl : ys.length = 4 := hyl
  have h0 : DataW.trod enc Try.prog W 0 (fun _ => true) true n' 36 ((cs.drop 0).take (Try.prog.cellsOf 36)) = some (ys[0]'(by rw [hyl]; decide)) := (hfd 0 fd_42_0 rfl).trans (List.getElem?_eq_getElem _)
  obtain ⟨u0, e0, r0⟩ := (inferInstance : Opn Try.prog 36 (Int) _ _).opn h0
  rw [show Try.prog.cellsOf 36 = 1 by kernel_rfl] at e0
  have h1 : DataW.trod enc Try.prog W 0 (fun _ => true) true n' 3 ((cs.drop 1).take (Try.prog.cellsOf 3)) = some (ys[1]'(by rw [hyl]; decide)) := (hfd 1 fd_42_1 rfl).trans (List.getElem?_eq_getElem _)
  obtain ⟨u1, e1, r1⟩ := (inferInstance : Opn Try.prog 3 (Int) _ _).opn h1
  rw [show Try.prog.cellsOf 3 = 1 by kernel_rfl] at e1
  have h2 : DataW.trod enc Try.prog W 0 (fun _ => true) true n' 39 ((cs.drop 2).take (Try.prog.cellsOf 39)) = some (ys[2]'(by rw [hyl]; decide)) := (hfd 2 fd_42_2 rfl).trans (List.getElem?_eq_getElem _)
  obtain ⟨u2, e2, r2⟩ := (inferInstance : Opn Try.prog 39 (Sl SsaEdge) _ _).opn h2
  rw [show Try.prog.cellsOf 39 = 1 by kernel_rfl] at e2
  have h3 : DataW.trod enc Try.prog W 0 (fun _ => true) true n' 40 ((cs.drop 3).take (Try.prog.cellsOf 40)) = some (ys[3]'(by rw [hyl]; decide)) := (hfd 3 fd_42_3 rfl).trans (List.getElem?_eq_getElem _)
  obtain ⟨u3, e3, r3⟩ := (inferInstance : Opn Try.prog 40 (Int) _ _).opn h3
  rw [show Try.prog.cellsOf 40 = 1 by kernel_rfl] at e3
  refine ⟨⟨u0, u1, u2, u3⟩, ?_, r0, r1, r2, r3⟩
  have hcs : cs = (cs.drop 0).take 1 ++ ((cs.drop 1).take 1 ++ ((cs.drop 2).take 1 ++ ((cs.drop 3).take 1 ++ (cs.drop 4)))) := by
    conv => lhs; rw [← List.drop_zero (l := cs)]
    conv => lhs; rw [cut_drop cs 0 1]
    conv => lhs; arg 2; rw [cut_drop cs 1 1]
    conv => lhs; arg 2; arg 2; rw [cut_drop cs 2 1]
    conv => lhs; arg 2; arg 2; arg 2; rw [cut_drop cs 3 1]
  rw [show cs.drop 4 = [] from List.drop_eq_nil_of_le (by omega)] at hcs
  refine hcs.trans ?_
  rw [e0, e1, e2, e3]; rfl⟩
instance : Opn Try.prog 44 SsaBlock (by infer_instance) (by infer_instance) := ⟨fun {H enc W fuel cs x} h => by
  obtain ⟨ys, n', _, _, hlen, hyl, hfd⟩ := DataW.trod_struct U_44 h
  have hlen : cs.length = 6 := hlen.trans (by kernel_rfl)
  have hyl : ys.length = 3 := hyl
  have h0 : DataW.trod enc Try.prog W 0 (fun _ => true) true n' 31 ((cs.drop 0).take (Try.prog.cellsOf 31)) = some (ys[0]'(by rw [hyl]; decide)) := (hfd 0 fd_44_0 rfl).trans (List.getElem?_eq_getElem _)
  obtain ⟨u0, e0, r0⟩ := (inferInstance : Opn Try.prog 31 (Sl Int) _ _).opn h0
  rw [show Try.prog.cellsOf 31 = 1 by kernel_rfl] at e0
  have h1 : DataW.trod enc Try.prog W 0 (fun _ => true) true n' 35 ((cs.drop 1).take (Try.prog.cellsOf 35)) = some (ys[1]'(by rw [hyl]; decide)) := (hfd 1 fd_44_1 rfl).trans (List.getElem?_eq_getElem _)
  obtain ⟨u1, e1, r1⟩ := (inferInstance : Opn Try.prog 35 (Sl SsaIns) _ _).opn h1
  rw [show Try.prog.cellsOf 35 = 1 by kernel_rfl] at e1
  have h2 : DataW.trod enc Try.prog W 0 (fun _ => true) true n' 42 ((cs.drop 2).take (Try.prog.cellsOf 42)) = some (ys[2]'(by rw [hyl]; decide)) := (hfd 2 fd_44_2 rfl).trans (List.getElem?_eq_getElem _)
  obtain ⟨u2, e2, r2⟩ := (inferInstance : Opn Try.prog 42 (SsaEnd) _ _).opn h2
  rw [show Try.prog.cellsOf 42 = 4 by kernel_rfl] at e2
  refine ⟨⟨u0, u1, u2⟩, ?_, r0, r1, r2⟩
  have hcs : cs = (cs.drop 0).take 1 ++ ((cs.drop 1).take 1 ++ ((cs.drop 2).take 4 ++ (cs.drop 6))) := by
    conv => lhs; rw [← List.drop_zero (l := cs)]
    conv => lhs; rw [cut_drop cs 0 1]
    conv => lhs; arg 2; rw [cut_drop cs 1 1]
    conv => lhs; arg 2; arg 2; rw [cut_drop cs 2 4]
  rw [show cs.drop 6 = [] from List.drop_eq_nil_of_le (by omega)] at hcs
  refine hcs.trans ?_
  rw [e0, e1, e2]; rfl⟩
instance : Opn Try.prog 45 (Sl SsaBlock) (by infer_instance) (by infer_instance) := opn_slice U_45 inferInstance (by kernel_rfl)
instance : Opn Try.prog 47 SsaFunc (by infer_instance) (by infer_instance) := ⟨fun {H enc W fuel cs x} h => by
  obtain ⟨ys, n', _, _, hlen, hyl, hfd⟩ := DataW.trod_struct U_47 h
  have hlen : cs.length = 2 := hlen.trans (by kernel_rfl)
  have hyl : ys.length = 2 := hyl
  have h0 : DataW.trod enc Try.prog W 0 (fun _ => true) true n' 9 ((cs.drop 0).take (Try.prog.cellsOf 9)) = some (ys[0]'(by rw [hyl]; decide)) := (hfd 0 fd_47_0 rfl).trans (List.getElem?_eq_getElem _)
  obtain ⟨u0, e0, r0⟩ := (inferInstance : Opn Try.prog 9 (Str) _ _).opn h0
  rw [show Try.prog.cellsOf 9 = 1 by kernel_rfl] at e0
  have h1 : DataW.trod enc Try.prog W 0 (fun _ => true) true n' 45 ((cs.drop 1).take (Try.prog.cellsOf 45)) = some (ys[1]'(by rw [hyl]; decide)) := (hfd 1 fd_47_1 rfl).trans (List.getElem?_eq_getElem _)
  obtain ⟨u1, e1, r1⟩ := (inferInstance : Opn Try.prog 45 (Sl SsaBlock) _ _).opn h1
  rw [show Try.prog.cellsOf 45 = 1 by kernel_rfl] at e1
  refine ⟨⟨u0, u1⟩, ?_, r0, r1⟩
  have hcs : cs = (cs.drop 0).take 1 ++ ((cs.drop 1).take 1 ++ (cs.drop 2)) := by
    conv => lhs; rw [← List.drop_zero (l := cs)]
    conv => lhs; rw [cut_drop cs 0 1]
    conv => lhs; arg 2; rw [cut_drop cs 1 1]
  rw [show cs.drop 2 = [] from List.drop_eq_nil_of_le (by omega)] at hcs
  refine hcs.trans ?_
  rw [e0, e1]; rfl⟩
instance : Opn Try.prog 24 (Sl SsaFunc) (by infer_instance) (by infer_instance) := opn_slice U_24 inferInstance (by kernel_rfl)
instance : Opn Try.prog 26 SsaProg (by infer_instance) (by infer_instance) := ⟨fun {H enc W fuel cs x} h => by
  obtain ⟨ys, n', _, _, hlen, hyl, hfd⟩ := DataW.trod_struct U_26 h
  have hlen : cs.length = 3 := hlen.trans (by kernel_rfl)
  have hyl : ys.length = 3 := hyl
  have h0 : DataW.trod enc Try.prog W 0 (fun _ => true) true n' 23 ((cs.drop 0).take (Try.prog.cellsOf 23)) = some (ys[0]'(by rw [hyl]; decide)) := (hfd 0 fd_26_0 rfl).trans (List.getElem?_eq_getElem _)
  obtain ⟨u0, e0, r0⟩ := (inferInstance : Opn Try.prog 23 (Sl SsaArray) _ _).opn h0
  rw [show Try.prog.cellsOf 23 = 1 by kernel_rfl] at e0
  have h1 : DataW.trod enc Try.prog W 0 (fun _ => true) true n' 24 ((cs.drop 1).take (Try.prog.cellsOf 24)) = some (ys[1]'(by rw [hyl]; decide)) := (hfd 1 fd_26_1 rfl).trans (List.getElem?_eq_getElem _)
  obtain ⟨u1, e1, r1⟩ := (inferInstance : Opn Try.prog 24 (Sl SsaFunc) _ _).opn h1
  rw [show Try.prog.cellsOf 24 = 1 by kernel_rfl] at e1
  have h2 : DataW.trod enc Try.prog W 0 (fun _ => true) true n' 3 ((cs.drop 2).take (Try.prog.cellsOf 3)) = some (ys[2]'(by rw [hyl]; decide)) := (hfd 2 fd_26_2 rfl).trans (List.getElem?_eq_getElem _)
  obtain ⟨u2, e2, r2⟩ := (inferInstance : Opn Try.prog 3 (Int) _ _).opn h2
  rw [show Try.prog.cellsOf 3 = 1 by kernel_rfl] at e2
  refine ⟨⟨u0, u1, u2⟩, ?_, r0, r1, r2⟩
  have hcs : cs = (cs.drop 0).take 1 ++ ((cs.drop 1).take 1 ++ ((cs.drop 2).take 1 ++ (cs.drop 3))) := by
    conv => lhs; rw [← List.drop_zero (l := cs)]
    conv => lhs; rw [cut_drop cs 0 1]
    conv => lhs; arg 2; rw [cut_drop cs 1 1]
    conv => lhs; arg 2; arg 2; rw [cut_drop cs 2 1]
  rw [show cs.drop 3 = [] from List.drop_eq_nil_of_le (by omega)] at hcs
  refine hcs.trans ?_
  rw [e0, e1, e2]; rfl⟩
instance : Opn Try.prog 49 (Int) (by infer_instance) (by infer_instance) := opn_int U_49
instance : Opn Try.prog 51 (Iof .u64) (by infer_instance) (by infer_instance) := opn_iof U_51
instance : Opn Try.prog 73 (Sl Bool) (by infer_instance) (by infer_instance) := opn_slice U_73 inferInstance (by kernel_rfl)
instance : Opn Try.prog 90 (Iof .u32) (by infer_instance) (by infer_instance) := opn_iof U_90
theorem foI : Try.prog.follows .mixedOrders = true := by kernel_rfl
instance : IsFc Try.prog 3 := ⟨_, F_3⟩
instance : IsFc Try.prog 4 := ⟨_, F_4⟩
instance : IsFc Try.prog 5 := ⟨_, F_5⟩
instance : IsFc Try.prog 6 := ⟨_, F_6⟩
instance : IsFc Try.prog 7 := ⟨_, F_7⟩
instance : IsFc Try.prog 8 := ⟨_, F_8⟩
instance : IsFc Try.prog 9 := ⟨_, F_9⟩
instance : IsFc Try.prog 10 := ⟨_, F_10⟩
instance : IsFc Try.prog 11 := ⟨_, F_11⟩
instance : IsFc Try.prog 12 := ⟨_, F_12⟩
instance : IsFc Try.prog 13 := ⟨_, F_13⟩
instance : IsFc Try.prog 14 := ⟨_, F_14⟩
instance : IsFc Try.prog 15 := ⟨_, F_15⟩
instance : IsFc Try.prog 16 := ⟨_, F_16⟩
instance : IsFc Try.prog 17 := ⟨_, F_17⟩
instance : IsFc Try.prog 18 := ⟨_, F_18⟩
instance : IsFc Try.prog 19 := ⟨_, F_19⟩
instance : IsFc Try.prog 20 := ⟨_, F_20⟩
instance : IsFc Try.prog 21 := ⟨_, F_21⟩
instance : IsFc Try.prog 22 := ⟨_, F_22⟩
instance : IsFc Try.prog 23 := ⟨_, F_23⟩
instance : IsFc Try.prog 24 := ⟨_, F_24⟩
instance : IsFc Try.prog 25 := ⟨_, F_25⟩
instance : IsFc Try.prog 26 := ⟨_, F_26⟩
instance : IsFc Try.prog 27 := ⟨_, F_27⟩
instance : IsFc Try.prog 28 := ⟨_, F_28⟩
instance : IsFc Try.prog 29 := ⟨_, F_29⟩
instance : IsFc Try.prog 30 := ⟨_, F_30⟩
instance : IsFc Try.prog 31 := ⟨_, F_31⟩
instance : IsFc Try.prog 32 := ⟨_, F_32⟩
instance : IsFc Try.prog 33 := ⟨_, F_33⟩
instance : IsFc Try.prog 34 := ⟨_, F_34⟩
instance : IsFc Try.prog 35 := ⟨_, F_35⟩
instance : IsFc Try.prog 36 := ⟨_, F_36⟩
instance : IsFc Try.prog 37 := ⟨_, F_37⟩
end Go.Proofs.Ytboicgdblbfbeaa
