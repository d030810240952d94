/- The types of this program, as Lean types (written by a program). -/
import Derived.Test.YtgcmcgbkdeealaaA8
import Derived.Test.YtgcmcgbkdeealaaFacts
namespace Go.Proofs.Ytgcmcgbkdeealaa
set_option linter.unusedVariables false
set_option linter.unusedSimpArgs false
open Go Go.RowKit

structure SsaIns where
  fOp : Int
  fDst : Int
  fArgs : Sl Int
  fNum : Int
  fBin : Int
  fArr : Int
  fFn : Int
instance : Enc SsaIns where
  enc := fun x => [.int .i64 x.fOp, .int .i64 x.fDst, .slice x.fArgs.A x.fArgs.xs.length x.fArgs.c, .int .i64 x.fNum, .int .i64 x.fBin, .int .i64 x.fArr, .int .i64 x.fFn]
  sz := 7
  dflt := ⟨Enc.dflt, Enc.dflt, Enc.dflt, Enc.dflt, Enc.dflt, Enc.dflt, Enc.dflt⟩
  len := fun _ => rfl
  one := by
    intro x u h
    simp only [List.mem_cons, List.not_mem_nil, or_false] at h
    rcases h with rfl | rfl | rfl | rfl | rfl | rfl | rfl <;> rfl
  pos := by decide
instance : Dp SsaIns where
  rd := fun ok w x => Dp.rd ok w x.fOp ∧ Dp.rd ok w x.fDst ∧ Dp.rd ok w x.fArgs ∧ Dp.rd ok w x.fNum ∧ Dp.rd ok w x.fBin ∧ Dp.rd ok w x.fArr ∧ Dp.rd ok w x.fFn
  loc := fun h hk => ⟨Dp.loc h.1 hk, Dp.loc h.2.1 hk, Dp.loc h.2.2.1 hk, Dp.loc h.2.2.2.1 hk, Dp.loc h.2.2.2.2.1 hk, Dp.loc h.2.2.2.2.2.1 hk, Dp.loc h.2.2.2.2.2.2 hk⟩
  dflt := fun ok w => ⟨Dp.dflt ok w, Dp.dflt ok w, Dp.dflt ok w, Dp.dflt ok w, Dp.dflt ok w, Dp.dflt ok w, Dp.dflt ok w⟩
instance {ok : FP} {w : World} {x : SsaIns} [h : RdD ok w x] : RdD ok w x.fOp := ⟨h.h.1⟩
instance {ok : FP} {w : World} {x : SsaIns} [h : RdD ok w x] : RdD ok w x.fDst := ⟨h.h.2.1⟩
instance {ok : FP} {w : World} {x : SsaIns} [h : RdD ok w x] : RdD ok w x.fArgs := ⟨h.h.2.2.1⟩
instance {ok : FP} {w : World} {x : SsaIns} [h : RdD ok w x] : RdD ok w x.fNum := ⟨h.h.2.2.2.1⟩
instance {ok : FP} {w : World} {x : SsaIns} [h : RdD ok w x] : RdD ok w x.fBin := ⟨h.h.2.2.2.2.1⟩
instance {ok : FP} {w : World} {x : SsaIns} [h : RdD ok w x] : RdD ok w x.fArr := ⟨h.h.2.2.2.2.2.1⟩
instance {ok : FP} {w : World} {x : SsaIns} [h : RdD ok w x] : RdD ok w x.fFn := ⟨h.h.2.2.2.2.2.2⟩
structure SsaEdge where
  fTo : Int
  fArgs : Sl Int
instance : Enc SsaEdge where
  enc := fun x => [.int .i64 x.fTo, .slice x.fArgs.A x.fArgs.xs.length x.fArgs.c]
  sz := 2
  dflt := ⟨Enc.dflt, Enc.dflt⟩
  len := fun _ => rfl
  one := by
    intro x u h
    simp only [List.mem_cons, List.not_mem_nil, or_false] at h
    rcases h with rfl | rfl <;> rfl
  pos := by decide
instance : Dp SsaEdge where
  rd := fun ok w x => Dp.rd ok w x.fTo ∧ Dp.rd ok w x.fArgs
  loc := fun h hk => ⟨Dp.loc h.1 hk, Dp.loc h.2 hk⟩
  dflt := fun ok w => ⟨Dp.dflt ok w, Dp.dflt ok w⟩
instance {ok : FP} {w : World} {x : SsaEdge} [h : RdD ok w x] : RdD ok w x.fTo := ⟨h.h.1⟩
instance {ok : FP} {w : World} {x : SsaEdge} [h : RdD ok w x] : RdD ok w x.fArgs := ⟨h.h.2⟩
structure SsaEnd where
  fKind : Int
  fVal : Int
  fWays : Sl SsaEdge
  fTrap : Int
instance : Enc SsaEnd where
  enc := fun x => [.int .i64 x.fKind, .int .i64 x.fVal, .slice x.fWays.A x.fWays.xs.length x.fWays.c, .int .i64 x.fTrap]
  sz := 4
  dflt := ⟨Enc.dflt, Enc.dflt, Enc.dflt, Enc.dflt⟩
  len := fun _ => rfl
  one := by
    intro x u h
    simp only [List.mem_cons, List.not_mem_nil, or_false] at h
    rcases h with rfl | rfl | rfl | rfl <;> rfl
  pos := by decide
instance : Dp SsaEnd where
  rd := fun ok w x => Dp.rd ok w x.fKind ∧ Dp.rd ok w x.fVal ∧ Dp.rd ok w x.fWays ∧ Dp.rd ok w x.fTrap
  loc := fun h hk => ⟨Dp.loc h.1 hk, Dp.loc h.2.1 hk, Dp.loc h.2.2.1 hk, Dp.loc h.2.2.2 hk⟩
  dflt := fun ok w => ⟨Dp.dflt ok w, Dp.dflt ok w, Dp.dflt ok w, Dp.dflt ok w⟩
instance {ok : FP} {w : World} {x : SsaEnd} [h : RdD ok w x] : RdD ok w x.fKind := ⟨h.h.1⟩
instance {ok : FP} {w : World} {x : SsaEnd} [h : RdD ok w x] : RdD ok w x.fVal := ⟨h.h.2.1⟩
instance {ok : FP} {w : World} {x : SsaEnd} [h : RdD ok w x] : RdD ok w x.fWays := ⟨h.h.2.2.1⟩
instance {ok : FP} {w : World} {x : SsaEnd} [h : RdD ok w x] : RdD ok w x.fTrap := ⟨h.h.2.2.2⟩
structure SsaBlock where
  fParams : Sl Int
  fIns : Sl SsaIns
  fEnd : SsaEnd
instance : Enc SsaBlock where
  enc := fun x => [.slice x.fParams.A x.fParams.xs.length x.fParams.c, .slice x.fIns.A x.fIns.xs.length x.fIns.c, .int .i64 x.fEnd.fKind, .int .i64 x.fEnd.fVal, .slice x.fEnd.fWays.A x.fEnd.fWays.xs.length x.fEnd.fWays.c, .int .i64 x.fEnd.fTrap]
  sz := 6
  dflt := ⟨Enc.dflt, Enc.dflt, Enc.dflt⟩
  len := fun _ => rfl
  one := by
    intro x u h
    simp only [List.mem_cons, List.not_mem_nil, or_false] at h
    rcases h with rfl | rfl | rfl | rfl | rfl | rfl <;> rfl
  pos := by decide
instance : Dp SsaBlock where
  rd := fun ok w x => Dp.rd ok w x.fParams ∧ Dp.rd ok w x.fIns ∧ Dp.rd ok w x.fEnd
  loc := fun h hk => ⟨Dp.loc h.1 hk, Dp.loc h.2.1 hk, Dp.loc h.2.2 hk⟩
  dflt := fun ok w => ⟨Dp.dflt ok w, Dp.dflt ok w, Dp.dflt ok w⟩
instance {ok : FP} {w : World} {x : SsaBlock} [h : RdD ok w x] : RdD ok w x.fParams := ⟨h.h.1⟩
instance {ok : FP} {w : World} {x : SsaBlock} [h : RdD ok w x] : RdD ok w x.fIns := ⟨h.h.2.1⟩
instance {ok : FP} {w : World} {x : SsaBlock} [h : RdD ok w x] : RdD ok w x.fEnd := ⟨h.h.2.2⟩
structure SsaFunc where
  fName : Str
  fBlocks : Sl SsaBlock
instance : Enc SsaFunc where
  enc := fun x => [.string x.fName.v, .slice x.fBlocks.A x.fBlocks.xs.length x.fBlocks.c]
  sz := 2
  dflt := ⟨Enc.dflt, Enc.dflt⟩
  len := fun _ => rfl
  one := by
    intro x u h
    simp only [List.mem_cons, List.not_mem_nil, or_false] at h
    rcases h with rfl | rfl <;> rfl
  pos := by decide
instance : Dp SsaFunc where
  rd := fun ok w x => Dp.rd ok w x.fName ∧ Dp.rd ok w x.fBlocks
  loc := fun h hk => ⟨Dp.loc h.1 hk, Dp.loc h.2 hk⟩
  dflt := fun ok w => ⟨Dp.dflt ok w, Dp.dflt ok w⟩
instance {ok : FP} {w : World} {x : SsaFunc} [h : RdD ok w x] : RdD ok w x.fName := ⟨h.h.1⟩
instance {ok : FP} {w : World} {x : SsaFunc} [h : RdD ok w x] : RdD ok w x.fBlocks := ⟨h.h.2⟩
structure FlowGraph where
  fOuts : Sl (Sl Int)
  fIns : Sl (Sl Int)
  fReach : Sl Bool
instance : Enc FlowGraph where
  enc := fun x => [.slice x.fOuts.A x.fOuts.xs.length x.fOuts.c, .slice x.fIns.A x.fIns.xs.length x.fIns.c, .slice x.fReach.A x.fReach.xs.length x.fReach.c]
  sz := 3
  dflt := ⟨Enc.dflt, Enc.dflt, Enc.dflt⟩
  len := fun _ => rfl
  one := by
    intro x u h
    simp only [List.mem_cons, List.not_mem_nil, or_false] at h
    rcases h with rfl | rfl | rfl <;> rfl
  pos := by decide
instance : Dp FlowGraph where
  rd := fun ok w x => Dp.rd ok w x.fOuts ∧ Dp.rd ok w x.fIns ∧ Dp.rd ok w x.fReach
  loc := fun h hk => ⟨Dp.loc h.1 hk, Dp.loc h.2.1 hk, Dp.loc h.2.2 hk⟩
  dflt := fun ok w => ⟨Dp.dflt ok w, Dp.dflt ok w, Dp.dflt ok w⟩
instance {ok : FP} {w : World} {x : FlowGraph} [h : RdD ok w x] : RdD ok w x.fOuts := ⟨h.h.1⟩
instance {ok : FP} {w : World} {x : FlowGraph} [h : RdD ok w x] : RdD ok w x.fIns := ⟨h.h.2.1⟩
instance {ok : FP} {w : World} {x : FlowGraph} [h : RdD ok w x] : RdD ok w x.fReach := ⟨h.h.2.2⟩
instance : C1 Try.prog 2 := ⟨T1_2⟩
instance : Elt Try.prog 2 (Int) (by infer_instance) 1 8 := ⟨⟨_, TI_2, rfl⟩, rfl⟩
instance : Ekc Try.prog 2 Int (ekInt U_2) := ⟨TI_2.zero, fun _ => rfl⟩
instance : C1 Try.prog 3 := ⟨T1_3⟩
instance : Elt Try.prog 3 (Int) (by infer_instance) 1 8 := ⟨⟨_, TI_3, rfl⟩, rfl⟩
instance : Ekc Try.prog 3 Int (ekInt U_3) := ⟨TI_3.zero, fun _ => rfl⟩
instance : C1 Try.prog 4 := ⟨T1_4⟩
instance : Elt Try.prog 4 (Bool) (by infer_instance) 1 1 := ⟨⟨_, TI_4, rfl⟩, rfl⟩
instance : Ekc Try.prog 4 Bool (ekBool U_4) := ⟨TI_4.zero, fun _ => rfl⟩
instance : BoT Try.prog 4 := ⟨U_4⟩
instance : C1 Try.prog 5 := ⟨T1_5⟩
instance : Elt Try.prog 5 (Iof .u8) (by infer_instance) 1 1 := ⟨⟨_, TI_5, rfl⟩, rfl⟩
instance : C1 Try.prog 9 := ⟨T1_9⟩
instance : Elt Try.prog 9 (Str) (by infer_instance) 1 16 := ⟨⟨_, TI_9, rfl⟩, rfl⟩
instance : C1 Try.prog 12 := ⟨T1_12⟩
instance : Elt Try.prog 12 (Iof .u64) (by infer_instance) 1 8 := ⟨⟨_, TI_12, rfl⟩, rfl⟩
instance : CA Try.prog 13 2 := ⟨TA_13⟩
instance : C1 Try.prog 21 := ⟨T1_21⟩
instance : Elt Try.prog 21 (Iof .i32) (by infer_instance) 1 4 := ⟨⟨_, TI_21, rfl⟩, rfl⟩
instance : C1 Try.prog 22 := ⟨T1_22⟩
instance : Elt Try.prog 22 (Sl (Sl Int)) (by infer_instance) 1 24 := ⟨⟨_, TI_22, rfl⟩, rfl⟩
instance : SlT Try.prog 22 35 := ⟨U_22⟩
instance : C1 Try.prog 25 := ⟨T1_25⟩
instance : Elt Try.prog 25 (Sl (Sl Bool)) (by infer_instance) 1 24 := ⟨⟨_, TI_25, rfl⟩, rfl⟩
instance : SlT Try.prog 25 33 := ⟨U_25⟩
instance : C1 Try.prog 26 := ⟨T1_26⟩
instance : Elt Try.prog 26 (Pr) (by infer_instance) 1 8 := ⟨⟨_, TI_26, rfl⟩, rfl⟩
instance : PtT Try.prog 26 := ⟨_, U_26⟩
instance : C1 Try.prog 28 := ⟨T1_28⟩
instance : Elt Try.prog 28 (Sl SsaBlock) (by infer_instance) 1 24 := ⟨⟨_, TI_28, rfl⟩, rfl⟩
instance : SlT Try.prog 28 50 := ⟨U_28⟩
instance : CA Try.prog 29 2 := ⟨TA_29⟩
instance : CA Try.prog 30 2 := ⟨TA_30⟩
instance : Elt Try.prog 30 (SsaFunc) (by infer_instance) 2 40 := ⟨⟨_, TI_30, rfl⟩, rfl⟩
instance : FldT Try.prog 30 0 0 := ⟨_, fd_30_0, 0, U_30, rfl, rfl, T1_9.sz⟩
instance : FldT Try.prog 30 1 1 := ⟨_, fd_30_1, 0, U_30, rfl, rfl, T1_28.sz⟩
instance : C1 Try.prog 33 := ⟨T1_33⟩
instance : Elt Try.prog 33 (Sl Bool) (by infer_instance) 1 24 := ⟨⟨_, TI_33, rfl⟩, rfl⟩
instance : SlT Try.prog 33 4 := ⟨U_33⟩
instance : C1 Try.prog 35 := ⟨T1_35⟩
instance : Elt Try.prog 35 (Sl Int) (by infer_instance) 1 24 := ⟨⟨_, TI_35, rfl⟩, rfl⟩
instance : SlT Try.prog 35 3 := ⟨U_35⟩
instance : CA Try.prog 41 3 := ⟨TA_41⟩
instance : CA Try.prog 42 3 := ⟨TA_42⟩
instance : Elt Try.prog 42 (FlowGraph) (by infer_instance) 3 72 := ⟨⟨_, TI_42, rfl⟩, rfl⟩
instance : FldT Try.prog 42 0 0 := ⟨_, fd_42_0, 0, U_42, rfl, rfl, T1_22.sz⟩
instance : FldT Try.prog 42 1 1 := ⟨_, fd_42_1, 0, U_42, rfl, rfl, T1_22.sz⟩
instance : FldT Try.prog 42 2 2 := ⟨_, fd_42_2, 0, U_42, rfl, rfl, T1_33.sz⟩
instance : C1 Try.prog 43 := ⟨T1_43⟩
instance : Elt Try.prog 43 (Sl SsaIns) (by infer_instance) 1 24 := ⟨⟨_, TI_43, rfl⟩, rfl⟩
instance : SlT Try.prog 43 74 := ⟨U_43⟩
instance : C1 Try.prog 44 := ⟨T1_44⟩
instance : Elt Try.prog 44 (Int) (by infer_instance) 1 8 := ⟨⟨_, TI_44, rfl⟩, rfl⟩
instance : Ekc Try.prog 44 Int (ekInt U_44) := ⟨TI_44.zero, fun _ => rfl⟩
instance : C1 Try.prog 45 := ⟨T1_45⟩
instance : Elt Try.prog 45 (Sl SsaEdge) (by infer_instance) 1 24 := ⟨⟨_, TI_45, rfl⟩, rfl⟩
instance : SlT Try.prog 45 52 := ⟨U_45⟩
instance : C1 Try.prog 46 := ⟨T1_46⟩
instance : Elt Try.prog 46 (Int) (by infer_instance) 1 8 := ⟨⟨_, TI_46, rfl⟩, rfl⟩
instance : Ekc Try.prog 46 Int (ekInt U_46) := ⟨TI_46.zero, fun _ => rfl⟩
instance : CA Try.prog 47 4 := ⟨TA_47⟩
instance : CA Try.prog 48 4 := ⟨TA_48⟩
instance : Elt Try.prog 48 (SsaEnd) (by infer_instance) 4 48 := ⟨⟨_, TI_48, rfl⟩, rfl⟩
instance : FldT Try.prog 48 0 0 := ⟨_, fd_48_0, 0, U_48, rfl, rfl, T1_44.sz⟩
instance : FldT Try.prog 48 1 1 := ⟨_, fd_48_1, 0, U_48, rfl, rfl, T1_3.sz⟩
instance : FldT Try.prog 48 2 2 := ⟨_, fd_48_2, 0, U_48, rfl, rfl, T1_45.sz⟩
instance : FldT Try.prog 48 3 3 := ⟨_, fd_48_3, 0, U_48, rfl, rfl, T1_46.sz⟩
instance : CA Try.prog 49 6 := ⟨TA_49⟩
instance : CA Try.prog 50 6 := ⟨TA_50⟩
instance : Elt Try.prog 50 (SsaBlock) (by infer_instance) 6 96 := ⟨⟨_, TI_50, rfl⟩, rfl⟩
instance : FldT Try.prog 50 0 0 := ⟨_, fd_50_0, 0, U_50, rfl, rfl, T1_35.sz⟩
instance : FldT Try.prog 50 1 1 := ⟨_, fd_50_1, 0, U_50, rfl, rfl, T1_43.sz⟩
instance : FldT Try.prog 50 2 2 := ⟨_, fd_50_2, 3, U_50, rfl, rfl, TA_48.sz⟩
instance : CA Try.prog 51 2 := ⟨TA_51⟩
instance : CA Try.prog 52 2 := ⟨TA_52⟩
instance : Elt Try.prog 52 (SsaEdge) (by infer_instance) 2 32 := ⟨⟨_, TI_52, rfl⟩, rfl⟩
instance : FldT Try.prog 52 0 0 := ⟨_, fd_52_0, 0, U_52, rfl, rfl, T1_3.sz⟩
instance : FldT Try.prog 52 1 1 := ⟨_, fd_52_1, 0, U_52, rfl, rfl, T1_35.sz⟩
instance : C1 Try.prog 62 := ⟨T1_62⟩
instance : Elt Try.prog 62 (Iof .u32) (by infer_instance) 1 4 := ⟨⟨_, TI_62, rfl⟩, rfl⟩
instance : C1 Try.prog 66 := ⟨T1_66⟩
instance : Elt Try.prog 66 (Pr) (by infer_instance) 1 8 := ⟨⟨_, TI_66, rfl⟩, rfl⟩
instance : PtT Try.prog 66 := ⟨_, U_66⟩
instance : C1 Try.prog 71 := ⟨T1_71⟩
instance : Elt Try.prog 71 (Int) (by infer_instance) 1 8 := ⟨⟨_, TI_71, rfl⟩, rfl⟩
instance : Ekc Try.prog 71 Int (ekInt U_71) := ⟨TI_71.zero, fun _ => rfl⟩
instance : C1 Try.prog 72 := ⟨T1_72⟩
instance : Elt Try.prog 72 (Int) (by infer_instance) 1 8 := ⟨⟨_, TI_72, rfl⟩, rfl⟩
instance : Ekc Try.prog 72 Int (ekInt U_72) := ⟨TI_72.zero, fun _ => rfl⟩
instance : CA Try.prog 73 7 := ⟨TA_73⟩
instance : CA Try.prog 74 7 := ⟨TA_74⟩
instance : Elt Try.prog 74 (SsaIns) (by infer_instance) 7 72 := ⟨⟨_, TI_74, rfl⟩, rfl⟩
instance : FldT Try.prog 74 0 0 := ⟨_, fd_74_0, 0, U_74, rfl, rfl, T1_71.sz⟩
instance : FldT Try.prog 74 1 1 := ⟨_, fd_74_1, 0, U_74, rfl, rfl, T1_3.sz⟩
instance : FldT Try.prog 74 2 2 := ⟨_, fd_74_2, 0, U_74, rfl, rfl, T1_35.sz⟩
instance : FldT Try.prog 74 3 3 := ⟨_, fd_74_3, 0, U_74, rfl, rfl, T1_2.sz⟩
instance : FldT Try.prog 74 4 4 := ⟨_, fd_74_4, 0, U_74, rfl, rfl, T1_72.sz⟩
instance : FldT Try.prog 74 5 5 := ⟨_, fd_74_5, 0, U_74, rfl, rfl, T1_3.sz⟩
instance : FldT Try.prog 74 6 6 := ⟨_, fd_74_6, 0, U_74, rfl, rfl, T1_3.sz⟩
instance : Opn Try.prog 2 (Int) (by infer_instance) (by infer_instance) := opn_int U_2
instance : Opn Try.prog 3 (Int) (by infer_instance) (by infer_instance) := opn_int U_3
instance : Opn Try.prog 4 (Bool) (by infer_instance) (by infer_instance) := opn_bool U_4
instance : Opn Try.prog 5 (Iof .u8) (by infer_instance) (by infer_instance) := opn_iof U_5
instance : Opn Try.prog 9 (Str) (by infer_instance) (by infer_instance) := opn_str U_9
instance : Opn Try.prog 12 (Iof .u64) (by infer_instance) (by infer_instance) := opn_iof U_12
instance : Opn Try.prog 21 (Iof .i32) (by infer_instance) (by infer_instance) := opn_iof U_21
instance : Opn Try.prog 35 (Sl Int) (by infer_instance) (by infer_instance) := opn_slice U_35 inferInstance (by kernel_rfl)
instance : Opn Try.prog 22 (Sl (Sl Int)) (by infer_instance) (by infer_instance) := opn_slice U_22 inferInstance (by kernel_rfl)
instance : Opn Try.prog 33 (Sl Bool) (by infer_instance) (by infer_instance) := opn_slice U_33 inferInstance (by kernel_rfl)
instance : Opn Try.prog 25 (Sl (Sl Bool)) (by infer_instance) (by infer_instance) := opn_slice U_25 inferInstance (by kernel_rfl)
instance : Opn Try.prog 71 (Int) (by infer_instance) (by infer_instance) := opn_int U_71
instance : Opn Try.prog 72 (Int) (by infer_instance) (by infer_instance) := opn_int U_72
instance : Opn Try.prog 74 SsaIns (by infer_instance) (by infer_instance) := ⟨fun {H enc W fuel cs x} h => by
  obtain ⟨ys, n', _, _, hlen, hyl, hfd⟩ := DataW.trod_struct U_74 h
  have hlen : cs.length = 7 := hlen.trans (by kernel_rfl)
  have hyl : ys.length = 7 := hyl
  have h0 : DataW.trod enc Try.prog W 0 (fun _ => true) true n' 71 ((cs.drop 0).take (Try.prog.cellsOf 71)) = some (ys[0]'(by rw [hyl]; decide)) := (hfd 0 fd_74_0 rfl).trans (List.getElem?_eq_getElem _)
  obtain ⟨u0, e0, r0⟩ := (inferInstance : Opn Try.prog 71 (Int) _ _).opn h0
  rw [show Try.prog.cellsOf 71 = 1 by kernel_rfl] at e0
  have h1 : DataW.trod enc Try.prog W 0 (fun _ => true) true n' 3 ((cs.drop 1).take (Try.prog.cellsOf 3)) = some (ys[1]'(by rw [hyl]; decide)) := (hfd 1 fd_74_1 rfl).trans (List.getElem?_eq_getElem _)
  obtain ⟨u1, e1, r1⟩ := (inferInstance : Opn Try.prog 3 (Int) _ _).opn h1
  rw [show Try.prog.cellsOf 3 = 1 by kernel_rfl] at e1
  have h2 : DataW.trod enc Try.prog W 0 (fun _ => true) true n' 35 ((cs.drop 2).take (Try.prog.cellsOf 35)) = some (ys[2]'(by rw [hyl]; decide)) := (hfd 2 fd_74_2 rfl).trans (List.getElem?_eq_getElem _)
  obtain ⟨u2, e2, r2⟩ := (inferInstance : Opn Try.prog 35 (Sl Int) _ _).opn h2
  rw [show Try.prog.cellsOf 35 = 1 by kernel_rfl] at e2
  have h3 : DataW.trod enc Try.prog W 0 (fun _ => true) true n' 2 ((cs.drop 3).take (Try.prog.cellsOf 2)) = some (ys[3]'(by rw [hyl]; decide)) := (hfd 3 fd_74_3 rfl).trans (List.getElem?_eq_getElem _)
  obtain ⟨u3, e3, r3⟩ := (inferInstance : Opn Try.prog 2 (Int) _ _).opn h3
  rw [show Try.prog.cellsOf 2 = 1 by kernel_rfl] at e3
  have h4 : DataW.trod enc Try.prog W 0 (fun _ => true) true n' 72 ((cs.drop 4).take (Try.prog.cellsOf 72)) = some (ys[4]'(by rw [hyl]; decide)) := (hfd 4 fd_74_4 rfl).trans (List.getElem?_eq_getElem _)
  obtain ⟨u4, e4, r4⟩ := (inferInstance : Opn Try.prog 72 (Int) _ _).opn h4
  rw [show Try.prog.cellsOf 72 = 1 by kernel_rfl] at e4
  have h5 : DataW.trod enc Try.prog W 0 (fun _ => true) true n' 3 ((cs.drop 5).take (Try.prog.cellsOf 3)) = some (ys[5]'(by rw [hyl]; decide)) := (hfd 5 fd_74_5 rfl).trans (List.getElem?_eq_getElem _)
  obtain ⟨u5, e5, r5⟩ := (inferInstance : Opn Try.prog 3 (Int) _ _).opn h5
  rw [show Try.prog.cellsOf 3 = 1 by kernel_rfl] at e5
  have h6 : DataW.trod enc Try.prog W 0 (fun _ => true) true n' 3 ((cs.drop 6).take (Try.prog.cellsOf 3)) = some (ys[6]'(by rw [hyl]; decide)) := (hfd 6 fd_74_6 rfl).trans (List.getElem?_eq_getElem _)
  obtain ⟨u6, e6, r6⟩ := (inferInstance : Opn Try.prog 3 (Int) _ _).opn h6
  rw [show Try.prog.cellsOf 3 = 1 by kernel_rfl] at e6
  refine ⟨⟨u0, u1, u2, u3, u4, u5, u6⟩, ?_, r0, r1, r2, r3, r4, r5, r6⟩
  have hcs : cs = (cs.drop 0).take 1 ++ ((cs.drop 1).take 1 ++ ((cs.drop 2).take 1 ++ ((cs.drop 3).take 1 ++ ((cs.drop 4).take 1 ++ ((cs.drop 5).take 1 ++ ((cs.drop 6).take 1 ++ (cs.drop 7))))))) := by
    conv => lhs; rw [← List.drop_zero (l := cs)]
    conv => lhs; rw [cut_drop cs 0 1]
    conv => lhs; arg 2; rw [cut_drop cs 1 1]
    conv => lhs; arg 2; arg 2; rw [cut_drop cs 2 1]
    conv => lhs; arg 2; arg 2; arg 2; rw [cut_drop cs 3 1]
    conv => lhs; arg 2; arg 2; arg 2; arg 2; rw [cut_drop cs 4 1]
    conv => lhs; arg 2; arg 2; arg 2; arg 2; arg 2; rw [cut_drop cs 5 1]
    conv => lhs; arg 2; arg 2; arg 2; arg 2; arg 2; arg 2; rw [cut_drop cs 6 1]
  rw [show cs.drop 7 = [] from List.drop_eq_nil_of_le (by omega)] at hcs
  refine hcs.trans ?_
  rw [e0, e1, e2, e3, e4, e5, e6]; rfl⟩
instance : Opn Try.prog 43 (Sl SsaIns) (by infer_instance) (by infer_instance) := opn_slice U_43 inferInstance (by kernel_rfl)
instance : Opn Try.prog 44 (Int) (by infer_instance) (by infer_instance) := opn_int U_44
instance : Opn Try.prog 52 SsaEdge (by infer_instance) (by infer_instance) := ⟨fun {H enc W fuel cs x} h => by
  obtain ⟨ys, n', _, _, hlen, hyl, hfd⟩ := DataW.trod_struct U_52 h
  have hlen : cs.length = 2 := hlen.trans (by kernel_rfl)
  have hyl : ys.length = 2 := hyl
  have h0 : DataW.trod enc Try.prog W 0 (fun _ => true) true n' 3 ((cs.drop 0).take (Try.prog.cellsOf 3)) = some (ys[0]'(by rw [hyl]; decide)) := (hfd 0 fd_52_0 rfl).trans (List.getElem?_eq_getElem _)
  obtain ⟨u0, e0, r0⟩ := (inferInstance : Opn Try.prog 3 (Int) _ _).opn h0
  rw [show Try.prog.cellsOf 3 = 1 by kernel_rfl] at e0
  have h1 : DataW.trod enc Try.prog W 0 (fun _ => true) true n' 35 ((cs.drop 1).take (Try.prog.cellsOf 35)) = some (ys[1]'(by rw [hyl]; decide)) := (hfd 1 fd_52_1 rfl).trans (List.getElem?_eq_getElem _)
  obtain ⟨u1, e1, r1⟩ := (inferInstance : Opn Try.prog 35 (Sl Int) _ _).opn h1
  rw [show Try.prog.cellsOf 35 = 1 by kernel_rfl] at e1
  refine ⟨⟨u0, u1⟩, ?_, r0, r1⟩
  have hcs : cs = (cs.drop 0).take 1 ++ ((cs.drop 1).take 1 ++ (cs.drop 2)) := by
    conv => lhs; rw [← List.drop_zero (l := cs)]
    conv => lhs; rw [cut_drop cs 0 1]
    conv => lhs; arg 2; rw [cut_drop cs 1 1]
  rw [show cs.drop 2 = [] from List.drop_eq_nil_of_le (by omega)] at hcs
  refine hcs.trans ?_
  rw [e0, e1]; rfl⟩
instance : Opn Try.prog 45 (Sl SsaEdge) (by infer_instance) (by infer_instance) := opn_slice U_45 inferInstance (by kernel_rfl)
instance : Opn Try.prog 46 (Int) (by infer_instance) (by infer_instance) := opn_int U_46
instance : Opn Try.prog 48 SsaEnd (by infer_instance) (by infer_instance) := ⟨fun {H enc W fuel cs x} h => by
  obtain ⟨ys, n', _, _, hlen, hyl, hfd⟩ := DataW.trod_struct U_48 h
  have hlen : cs.length = 4 := hlen.trans (by kernel_rfl)
  have hyl : ys.length = 4 := hyl
  have h0 : DataW.trod enc Try.prog W 0 (fun _ => true) true n' 44 ((cs.drop 0).take (Try.prog.cellsOf 44)) = some (ys[0]'(by rw [hyl]; decide)) := (hfd 0 fd_48_0 rfl).trans (List.getElem?_eq_getElem _)
  obtain ⟨u0, e0, r0⟩ := (inferInstance : Opn Try.prog 44 (Int) _ _).opn h0
  rw [show Try.prog.cellsOf 44 = 1 by kernel_rfl] at e0
  have h1 : DataW.trod enc Try.prog W 0 (fun _ => true) true n' 3 ((cs.drop 1).take (Try.prog.cellsOf 3)) = some (ys[1]'(by rw [hyl]; decide)) := (hfd 1 fd_48_1 rfl).trans (List.getElem?_eq_getElem _)
  obtain ⟨u1, e1, r1⟩ := (inferInstance : Opn Try.prog 3 (Int) _ _).opn h1
  rw [show Try.prog.cellsOf 3 = 1 by kernel_rfl] at e1
  have h2 : DataW.trod enc Try.prog W 0 (fun _ => true) true n' 45 ((cs.drop 2).take (Try.prog.cellsOf 45)) = some (ys[2]'(by rw [hyl]; decide)) := (hfd 2 fd_48_2 rfl).trans (List.getElem?_eq_getElem _)
  obtain ⟨u2, e2, r2⟩ := (inferInstance : Opn Try.prog 45 (Sl SsaEdge) _ _).opn h2
  rw [show Try.prog.cellsOf 45 = 1 by kernel_rfl] at e2
  have h3 : DataW.trod enc Try.prog W 0 (fun _ => true) true n' 46 ((cs.drop 3).take (Try.prog.cellsOf 46)) = some (ys[3]'(by rw [hyl]; decide)) := (hfd 3 fd_48_3 rfl).trans (List.getElem?_eq_getElem _)
  obtain ⟨u3, e3, r3⟩ := (inferInstance : Opn Try.prog 46 (Int) _ _).opn h3
  rw [show Try.prog.cellsOf 46 = 1 by kernel_rfl] at e3
  refine ⟨⟨u0, u1, u2, u3⟩, ?_, r0, r1, r2, r3⟩
  have hcs : cs = (cs.drop 0).take 1 ++ ((cs.drop 1).take 1 ++ ((cs.drop 2).take 1 ++ ((cs.drop 3).take 1 ++ (cs.drop 4)))) := by
    conv => lhs; rw [← List.drop_zero (l := cs)]
    conv => lhs; rw [cut_drop cs 0 1]
    conv => lhs; arg 2; rw [cut_drop cs 1 1]
    conv => lhs; arg 2; arg 2; rw [cut_drop cs 2 1]
    conv => lhs; arg 2; arg 2; arg 2; rw [cut_drop cs 3 1]
  rw [show cs.drop 4 = [] from List.drop_eq_nil_of_le (by omega)] at hcs
  refine hcs.trans ?_
  rw [e0, e1, e2, e3]; rfl⟩
instance : Opn Try.prog 50 SsaBlock (by infer_instance) (by infer_instance) := ⟨fun {H enc W fuel cs x} h => by
  obtain ⟨ys, n', _, _, hlen, hyl, hfd⟩ := DataW.trod_struct U_50 h
  have hlen : cs.length = 6 := hlen.trans (by kernel_rfl)
  have hyl : ys.length = 3 := hyl
  have h0 : DataW.trod enc Try.prog W 0 (fun _ => true) true n' 35 ((cs.drop 0).take (Try.prog.cellsOf 35)) = some (ys[0]'(by rw [hyl]; decide)) := (hfd 0 fd_50_0 rfl).trans (List.getElem?_eq_getElem _)
  obtain ⟨u0, e0, r0⟩ := (inferInstance : Opn Try.prog 35 (Sl Int) _ _).opn h0
  rw [show Try.prog.cellsOf 35 = 1 by kernel_rfl] at e0
  have h1 : DataW.trod enc Try.prog W 0 (fun _ => true) true n' 43 ((cs.drop 1).take (Try.prog.cellsOf 43)) = some (ys[1]'(by rw [hyl]; decide)) := (hfd 1 fd_50_1 rfl).trans (List.getElem?_eq_getElem _)
  obtain ⟨u1, e1, r1⟩ := (inferInstance : Opn Try.prog 43 (Sl SsaIns) _ _).opn h1
  rw [show Try.prog.cellsOf 43 = 1 by kernel_rfl] at e1
  have h2 : DataW.trod enc Try.prog W 0 (fun _ => true) true n' 48 ((cs.drop 2).take (Try.prog.cellsOf 48)) = some (ys[2]'(by rw [hyl]; decide)) := (hfd 2 fd_50_2 rfl).trans (List.getElem?_eq_getElem _)
  obtain ⟨u2, e2, r2⟩ := (inferInstance : Opn Try.prog 48 (SsaEnd) _ _).opn h2
  rw [show Try.prog.cellsOf 48 = 4 by kernel_rfl] at e2
  refine ⟨⟨u0, u1, u2⟩, ?_, r0, r1, r2⟩
  have hcs : cs = (cs.drop 0).take 1 ++ ((cs.drop 1).take 1 ++ ((cs.drop 2).take 4 ++ (cs.drop 6))) := by
    conv => lhs; rw [← List.drop_zero (l := cs)]
    conv => lhs; rw [cut_drop cs 0 1]
    conv => lhs; arg 2; rw [cut_drop cs 1 1]
    conv => lhs; arg 2; arg 2; rw [cut_drop cs 2 4]
  rw [show cs.drop 6 = [] from List.drop_eq_nil_of_le (by omega)] at hcs
  refine hcs.trans ?_
  rw [e0, e1, e2]; rfl⟩
instance : Opn Try.prog 28 (Sl SsaBlock) (by infer_instance) (by infer_instance) := opn_slice U_28 inferInstance (by kernel_rfl)
instance : Opn Try.prog 30 SsaFunc (by infer_instance) (by infer_instance) := ⟨fun {H enc W fuel cs x} h => by
  obtain ⟨ys, n', _, _, hlen, hyl, hfd⟩ := DataW.trod_struct U_30 h
  have hlen : cs.length = 2 := hlen.trans (by kernel_rfl)
  have hyl : ys.length = 2 := hyl
  have h0 : DataW.trod enc Try.prog W 0 (fun _ => true) true n' 9 ((cs.drop 0).take (Try.prog.cellsOf 9)) = some (ys[0]'(by rw [hyl]; decide)) := (hfd 0 fd_30_0 rfl).trans (List.getElem?_eq_getElem _)
  obtain ⟨u0, e0, r0⟩ := (inferInstance : Opn Try.prog 9 (Str) _ _).opn h0
  rw [show Try.prog.cellsOf 9 = 1 by kernel_rfl] at e0
  have h1 : DataW.trod enc Try.prog W 0 (fun _ => true) true n' 28 ((cs.drop 1).take (Try.prog.cellsOf 28)) = some (ys[1]'(by rw [hyl]; decide)) := (hfd 1 fd_30_1 rfl).trans (List.getElem?_eq_getElem _)
  obtain ⟨u1, e1, r1⟩ := (inferInstance : Opn Try.prog 28 (Sl SsaBlock) _ _).opn h1
  rw [show Try.prog.cellsOf 28 = 1 by kernel_rfl] at e1
  refine ⟨⟨u0, u1⟩, ?_, r0, r1⟩
  have hcs : cs = (cs.drop 0).take 1 ++ ((cs.drop 1).take 1 ++ (cs.drop 2)) := by
    conv => lhs; rw [← List.drop_zero (l := cs)]
    conv => lhs; rw [cut_drop cs 0 1]
    conv => lhs; arg 2; rw [cut_drop cs 1 1]
  rw [show cs.drop 2 = [] from List.drop_eq_nil_of_le (by omega)] at hcs
  refine hcs.trans ?_
  rw [e0, e1]; rfl⟩
instance : Opn Try.prog 42 FlowGraph (by infer_instance) (by infer_instance) := ⟨fun {H enc W fuel cs x} h => by
  obtain ⟨ys, n', _, _, hlen, hyl, hfd⟩ := DataW.trod_struct U_42 h
  have hlen : cs.length = 3 := hlen.trans (by kernel_rfl)
  have hyl : ys.length = 3 := hyl
  have h0 : DataW.trod enc Try.prog W 0 (fun _ => true) true n' 22 ((cs.drop 0).take (Try.prog.cellsOf 22)) = some (ys[0]'(by rw [hyl]; decide)) := (hfd 0 fd_42_0 rfl).trans (List.getElem?_eq_getElem _)
  obtain ⟨u0, e0, r0⟩ := (inferInstance : Opn Try.prog 22 (Sl (Sl Int)) _ _).opn h0
  rw [show Try.prog.cellsOf 22 = 1 by kernel_rfl] at e0
  have h1 : DataW.trod enc Try.prog W 0 (fun _ => true) true n' 22 ((cs.drop 1).take (Try.prog.cellsOf 22)) = some (ys[1]'(by rw [hyl]; decide)) := (hfd 1 fd_42_1 rfl).trans (List.getElem?_eq_getElem _)
  obtain ⟨u1, e1, r1⟩ := (inferInstance : Opn Try.prog 22 (Sl (Sl Int)) _ _).opn h1
  rw [show Try.prog.cellsOf 22 = 1 by kernel_rfl] at e1
  have h2 : DataW.trod enc Try.prog W 0 (fun _ => true) true n' 33 ((cs.drop 2).take (Try.prog.cellsOf 33)) = some (ys[2]'(by rw [hyl]; decide)) := (hfd 2 fd_42_2 rfl).trans (List.getElem?_eq_getElem _)
  obtain ⟨u2, e2, r2⟩ := (inferInstance : Opn Try.prog 33 (Sl Bool) _ _).opn h2
  rw [show Try.prog.cellsOf 33 = 1 by kernel_rfl] at e2
  refine ⟨⟨u0, u1, u2⟩, ?_, r0, r1, r2⟩
  have hcs : cs = (cs.drop 0).take 1 ++ ((cs.drop 1).take 1 ++ ((cs.drop 2).take 1 ++ (cs.drop 3))) := by
    conv => lhs; rw [← List.drop_zero (l := cs)]
    conv => lhs; rw [cut_drop cs 0 1]
    conv => lhs; arg 2; rw [cut_drop cs 1 1]
    conv => lhs; arg 2; arg 2; rw [cut_drop cs 2 1]
  rw [show cs.drop 3 = [] from List.drop_eq_nil_of_le (by omega)] at hcs
  refine hcs.trans ?_
  rw [e0, e1, e2]; rfl⟩
instance : Opn Try.prog 62 (Iof .u32) (by infer_instance) (by infer_instance) := opn_iof U_62
theorem foI : Try.prog.follows .mixedOrders = true := by kernel_rfl
instance : IsFc Try.prog 3 := ⟨_, F_3⟩
instance : IsFc Try.prog 4 := ⟨_, F_4⟩
instance : IsFc Try.prog 5 := ⟨_, F_5⟩
instance : IsFc Try.prog 6 := ⟨_, F_6⟩
instance : IsFc Try.prog 7 := ⟨_, F_7⟩
instance : IsFc Try.prog 8 := ⟨_, F_8⟩
instance : IsFc Try.prog 9 := ⟨_, F_9⟩
instance : IsFc Try.prog 10 := ⟨_, F_10⟩
instance : IsFc Try.prog 11 := ⟨_, F_11⟩
instance : IsFc Try.prog 12 := ⟨_, F_12⟩
instance : IsFc Try.prog 13 := ⟨_, F_13⟩
instance : IsFc Try.prog 14 := ⟨_, F_14⟩
instance : IsFc Try.prog 15 := ⟨_, F_15⟩
instance : IsFc Try.prog 16 := ⟨_, F_16⟩
instance : IsFc Try.prog 17 := ⟨_, F_17⟩
instance : IsFc Try.prog 18 := ⟨_, F_18⟩
instance : IsFc Try.prog 19 := ⟨_, F_19⟩
instance : IsFc Try.prog 20 := ⟨_, F_20⟩
instance : IsFc Try.prog 21 := ⟨_, F_21⟩
instance : IsFc Try.prog 22 := ⟨_, F_22⟩
end Go.Proofs.Ytgcmcgbkdeealaa
