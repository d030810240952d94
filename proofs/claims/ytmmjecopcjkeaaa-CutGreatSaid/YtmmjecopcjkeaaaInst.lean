/- The types of this program, as Lean types (written by a program). -/
import Derived.Test.YtmmjecopcjkeaaaA9
import Derived.Test.YtmmjecopcjkeaaaFacts
namespace Go.Proofs.Ytmmjecopcjkeaaa
set_option linter.unusedVariables false
set_option linter.unusedSimpArgs false
open Go Go.RowKit

structure CutNet where
  fWeights : Sl Int
  fWays : Sl (Ar2 Int)
  fFrom : Sl Int
  fTo : Sl Int
instance : Enc CutNet where
  enc := fun x => [.slice x.fWeights.A x.fWeights.xs.length x.fWeights.c, .slice x.fWays.A x.fWays.xs.length x.fWays.c, .slice x.fFrom.A x.fFrom.xs.length x.fFrom.c, .slice x.fTo.A x.fTo.xs.length x.fTo.c]
  sz := 4
  dflt := ⟨Enc.dflt, Enc.dflt, Enc.dflt, Enc.dflt⟩
  len := fun _ => rfl
  one := by
    intro x u h
    simp only [List.mem_cons, List.not_mem_nil, or_false] at h
    rcases h with rfl | rfl | rfl | rfl <;> rfl
  pos := by decide
instance : Dp CutNet where
  rd := fun ok w x => Dp.rd ok w x.fWeights ∧ Dp.rd ok w x.fWays ∧ Dp.rd ok w x.fFrom ∧ Dp.rd ok w x.fTo
  loc := fun h hk => ⟨Dp.loc h.1 hk, Dp.loc h.2.1 hk, Dp.loc h.2.2.1 hk, Dp.loc h.2.2.2 hk⟩
  dflt := fun ok w => ⟨Dp.dflt ok w, Dp.dflt ok w, Dp.dflt ok w, Dp.dflt ok w⟩
instance {ok : FP} {w : World} {x : CutNet} [h : RdD ok w x] : RdD ok w x.fWeights := ⟨h.h.1⟩
instance {ok : FP} {w : World} {x : CutNet} [h : RdD ok w x] : RdD ok w x.fWays := ⟨h.h.2.1⟩
instance {ok : FP} {w : World} {x : CutNet} [h : RdD ok w x] : RdD ok w x.fFrom := ⟨h.h.2.2.1⟩
instance {ok : FP} {w : World} {x : CutNet} [h : RdD ok w x] : RdD ok w x.fTo := ⟨h.h.2.2.2⟩
structure CutArc where
  fTo : Int
  fLeft : Int
instance : Enc CutArc where
  enc := fun x => [.int .i64 x.fTo, .int .i64 x.fLeft]
  sz := 2
  dflt := ⟨Enc.dflt, Enc.dflt⟩
  len := fun _ => rfl
  one := by
    intro x u h
    simp only [List.mem_cons, List.not_mem_nil, or_false] at h
    rcases h with rfl | rfl <;> rfl
  pos := by decide
instance : Dp CutArc where
  rd := fun ok w x => Dp.rd ok w x.fTo ∧ Dp.rd ok w x.fLeft
  loc := fun h hk => ⟨Dp.loc h.1 hk, Dp.loc h.2 hk⟩
  dflt := fun ok w => ⟨Dp.dflt ok w, Dp.dflt ok w⟩
instance {ok : FP} {w : World} {x : CutArc} [h : RdD ok w x] : RdD ok w x.fTo := ⟨h.h.1⟩
instance {ok : FP} {w : World} {x : CutArc} [h : RdD ok w x] : RdD ok w x.fLeft := ⟨h.h.2⟩
structure CutFlow where
  fArcs : Sl CutArc
  fOuts : Sl (Sl Int)
instance : Enc CutFlow where
  enc := fun x => [.slice x.fArcs.A x.fArcs.xs.length x.fArcs.c, .slice x.fOuts.A x.fOuts.xs.length x.fOuts.c]
  sz := 2
  dflt := ⟨Enc.dflt, Enc.dflt⟩
  len := fun _ => rfl
  one := by
    intro x u h
    simp only [List.mem_cons, List.not_mem_nil, or_false] at h
    rcases h with rfl | rfl <;> rfl
  pos := by decide
instance : Dp CutFlow where
  rd := fun ok w x => Dp.rd ok w x.fArcs ∧ Dp.rd ok w x.fOuts
  loc := fun h hk => ⟨Dp.loc h.1 hk, Dp.loc h.2 hk⟩
  dflt := fun ok w => ⟨Dp.dflt ok w, Dp.dflt ok w⟩
instance {ok : FP} {w : World} {x : CutFlow} [h : RdD ok w x] : RdD ok w x.fArcs := ⟨h.h.1⟩
instance {ok : FP} {w : World} {x : CutFlow} [h : RdD ok w x] : RdD ok w x.fOuts := ⟨h.h.2⟩
instance : C1 Try.prog 2 := ⟨T1_2⟩
instance : Elt Try.prog 2 (Int) (by infer_instance) 1 8 := ⟨⟨_, TI_2, rfl⟩, rfl⟩
instance : Ekc Try.prog 2 Int (ekInt U_2) := ⟨TI_2.zero, fun _ => rfl⟩
instance : C1 Try.prog 3 := ⟨T1_3⟩
instance : Elt Try.prog 3 (Int) (by infer_instance) 1 8 := ⟨⟨_, TI_3, rfl⟩, rfl⟩
instance : Ekc Try.prog 3 Int (ekInt U_3) := ⟨TI_3.zero, fun _ => rfl⟩
instance : C1 Try.prog 4 := ⟨T1_4⟩
instance : Elt Try.prog 4 (Bool) (by infer_instance) 1 1 := ⟨⟨_, TI_4, rfl⟩, rfl⟩
instance : Ekc Try.prog 4 Bool (ekBool U_4) := ⟨TI_4.zero, fun _ => rfl⟩
instance : BoT Try.prog 4 := ⟨U_4⟩
instance : C1 Try.prog 5 := ⟨T1_5⟩
instance : Elt Try.prog 5 (Iof .u8) (by infer_instance) 1 1 := ⟨⟨_, TI_5, rfl⟩, rfl⟩
instance : C1 Try.prog 9 := ⟨T1_9⟩
instance : Elt Try.prog 9 (Str) (by infer_instance) 1 16 := ⟨⟨_, TI_9, rfl⟩, rfl⟩
instance : C1 Try.prog 12 := ⟨T1_12⟩
instance : Elt Try.prog 12 (Iof .u64) (by infer_instance) 1 8 := ⟨⟨_, TI_12, rfl⟩, rfl⟩
instance : CA Try.prog 13 2 := ⟨TA_13⟩
instance : C1 Try.prog 21 := ⟨T1_21⟩
instance : Elt Try.prog 21 (Iof .i32) (by infer_instance) 1 4 := ⟨⟨_, TI_21, rfl⟩, rfl⟩
instance : C1 Try.prog 22 := ⟨T1_22⟩
instance : Elt Try.prog 22 (Sl Int) (by infer_instance) 1 24 := ⟨⟨_, TI_22, rfl⟩, rfl⟩
instance : SlT Try.prog 22 2 := ⟨U_22⟩
instance : C1 Try.prog 23 := ⟨T1_23⟩
instance : Elt Try.prog 23 (Sl (Ar2 Int)) (by infer_instance) 1 24 := ⟨⟨_, TI_23, rfl⟩, rfl⟩
instance : SlT Try.prog 23 37 := ⟨U_23⟩
instance : C1 Try.prog 24 := ⟨T1_24⟩
instance : Elt Try.prog 24 (Sl Int) (by infer_instance) 1 24 := ⟨⟨_, TI_24, rfl⟩, rfl⟩
instance : SlT Try.prog 24 3 := ⟨U_24⟩
instance : CA Try.prog 25 4 := ⟨TA_25⟩
instance : CA Try.prog 26 4 := ⟨TA_26⟩
instance : Elt Try.prog 26 (CutNet) (by infer_instance) 4 96 := ⟨⟨_, TI_26, rfl⟩, rfl⟩
instance : FldT Try.prog 26 0 0 := ⟨_, fd_26_0, 0, U_26, rfl, rfl, T1_22.sz⟩
instance : FldT Try.prog 26 1 1 := ⟨_, fd_26_1, 0, U_26, rfl, rfl, T1_23.sz⟩
instance : FldT Try.prog 26 2 2 := ⟨_, fd_26_2, 0, U_26, rfl, rfl, T1_24.sz⟩
instance : FldT Try.prog 26 3 3 := ⟨_, fd_26_3, 0, U_26, rfl, rfl, T1_24.sz⟩
instance : C1 Try.prog 32 := ⟨T1_32⟩
instance : Elt Try.prog 32 (Iof .u64) (by infer_instance) 1 8 := ⟨⟨_, TI_32, rfl⟩, rfl⟩
instance : CA Try.prog 37 2 := ⟨TA_37⟩
instance : Elt Try.prog 37 (Ar2 Int) (by infer_instance) 2 16 := ⟨⟨_, TI_37, rfl⟩, rfl⟩
instance : C1 Try.prog 39 := ⟨T1_39⟩
instance : Elt Try.prog 39 (Sl CutNet) (by infer_instance) 1 24 := ⟨⟨_, TI_39, rfl⟩, rfl⟩
instance : SlT Try.prog 39 26 := ⟨U_39⟩
instance : C1 Try.prog 42 := ⟨T1_42⟩
instance : Elt Try.prog 42 (Pr) (by infer_instance) 1 8 := ⟨⟨_, TI_42, rfl⟩, rfl⟩
instance : PtT Try.prog 42 := ⟨_, U_42⟩
instance : C1 Try.prog 46 := ⟨T1_46⟩
instance : Elt Try.prog 46 (Sl Bool) (by infer_instance) 1 24 := ⟨⟨_, TI_46, rfl⟩, rfl⟩
instance : SlT Try.prog 46 4 := ⟨U_46⟩
instance : C1 Try.prog 53 := ⟨T1_53⟩
instance : Elt Try.prog 53 (Sl (Sl Int)) (by infer_instance) 1 24 := ⟨⟨_, TI_53, rfl⟩, rfl⟩
instance : SlT Try.prog 53 24 := ⟨U_53⟩
instance : C1 Try.prog 55 := ⟨T1_55⟩
instance : Elt Try.prog 55 (Sl CutArc) (by infer_instance) 1 24 := ⟨⟨_, TI_55, rfl⟩, rfl⟩
instance : SlT Try.prog 55 60 := ⟨U_55⟩
instance : CA Try.prog 56 2 := ⟨TA_56⟩
instance : CA Try.prog 57 2 := ⟨TA_57⟩
instance : Elt Try.prog 57 (CutFlow) (by infer_instance) 2 48 := ⟨⟨_, TI_57, rfl⟩, rfl⟩
instance : FldT Try.prog 57 0 0 := ⟨_, fd_57_0, 0, U_57, rfl, rfl, T1_55.sz⟩
instance : FldT Try.prog 57 1 1 := ⟨_, fd_57_1, 0, U_57, rfl, rfl, T1_53.sz⟩
instance : CA Try.prog 59 2 := ⟨TA_59⟩
instance : CA Try.prog 60 2 := ⟨TA_60⟩
instance : Elt Try.prog 60 (CutArc) (by infer_instance) 2 16 := ⟨⟨_, TI_60, rfl⟩, rfl⟩
instance : FldT Try.prog 60 0 0 := ⟨_, fd_60_0, 0, U_60, rfl, rfl, T1_3.sz⟩
instance : FldT Try.prog 60 1 1 := ⟨_, fd_60_1, 0, U_60, rfl, rfl, T1_2.sz⟩
instance : C1 Try.prog 72 := ⟨T1_72⟩
instance : Elt Try.prog 72 (Iof .u32) (by infer_instance) 1 4 := ⟨⟨_, TI_72, rfl⟩, rfl⟩
instance : C1 Try.prog 76 := ⟨T1_76⟩
instance : Elt Try.prog 76 (Pr) (by infer_instance) 1 8 := ⟨⟨_, TI_76, rfl⟩, rfl⟩
instance : PtT Try.prog 76 := ⟨_, U_76⟩
instance : Opn Try.prog 2 (Int) (by infer_instance) (by infer_instance) := opn_int U_2
instance : Opn Try.prog 3 (Int) (by infer_instance) (by infer_instance) := opn_int U_3
instance : Opn Try.prog 4 (Bool) (by infer_instance) (by infer_instance) := opn_bool U_4
instance : Opn Try.prog 5 (Iof .u8) (by infer_instance) (by infer_instance) := opn_iof U_5
instance : Opn Try.prog 9 (Str) (by infer_instance) (by infer_instance) := opn_str U_9
instance : Opn Try.prog 12 (Iof .u64) (by infer_instance) (by infer_instance) := opn_iof U_12
instance : Opn Try.prog 21 (Iof .i32) (by infer_instance) (by infer_instance) := opn_iof U_21
instance : Opn Try.prog 22 (Sl Int) (by infer_instance) (by infer_instance) := opn_slice U_22 inferInstance (by kernel_rfl)
instance : Opn Try.prog 37 (Ar2 Int) (by infer_instance) (by infer_instance) := ⟨fun {H enc W fuel cs x} h => by
  obtain ⟨ys, n', _, _, hlen, hyl, hfd⟩ := DataW.trod_array U_37 h
  have hlen : cs.length = 2 := hlen.trans (by kernel_rfl)
  have hk : Try.prog.cellsOf 3 = 1 := by kernel_rfl
  obtain ⟨u0, e0, r0⟩ := (inferInstance : Opn Try.prog 3 Int _ _).opn ((hfd 0 (by decide)).trans (List.getElem?_eq_getElem (by rw [hyl]; decide)))
  obtain ⟨u1, e1, r1⟩ := (inferInstance : Opn Try.prog 3 Int _ _).opn ((hfd 1 (by decide)).trans (List.getElem?_eq_getElem (by rw [hyl]; decide)))
  rw [hk] at e0 e1
  refine ⟨⟨u0, u1⟩, ?_, r0, r1⟩
  match cs, hlen with
  | [c0, c1], _ =>
    have e0 : [c0] = Enc.enc u0 := e0
    have e1 : [c1] = Enc.enc u1 := e1
    show [c0, c1] = Enc.enc u0 ++ Enc.enc u1
    rw [← e0, ← e1]; rfl⟩
instance : Opn Try.prog 23 (Sl (Ar2 Int)) (by infer_instance) (by infer_instance) := opn_slice U_23 inferInstance (by kernel_rfl)
instance : Opn Try.prog 24 (Sl Int) (by infer_instance) (by infer_instance) := opn_slice U_24 inferInstance (by kernel_rfl)
instance : Opn Try.prog 26 CutNet (by infer_instance) (by infer_instance) := ⟨fun {H enc W fuel cs x} h => by
  obtain ⟨ys, n', _, _, hlen, hyl, hfd⟩ := DataW.trod_struct U_26 h
  have hlen : cs.length = 4 := hlen.trans (by kernel_rfl)
  have hyl : ys.length = 4 := hyl
  have h0 : DataW.trod enc Try.prog W 0 (fun _ => true) true n' 22 ((cs.drop 0).take (Try.prog.cellsOf 22)) = some (ys[0]'(by rw [hyl]; decide)) := (hfd 0 fd_26_0 rfl).trans (List.getElem?_eq_getElem _)
  obtain ⟨u0, e0, r0⟩ := (inferInstance : Opn Try.prog 22 (Sl Int) _ _).opn h0
  rw [show Try.prog.cellsOf 22 = 1 by kernel_rfl] at e0
  have h1 : DataW.trod enc Try.prog W 0 (fun _ => true) true n' 23 ((cs.drop 1).take (Try.prog.cellsOf 23)) = some (ys[1]'(by rw [hyl]; decide)) := (hfd 1 fd_26_1 rfl).trans (List.getElem?_eq_getElem _)
  obtain ⟨u1, e1, r1⟩ := (inferInstance : Opn Try.prog 23 (Sl (Ar2 Int)) _ _).opn h1
  rw [show Try.prog.cellsOf 23 = 1 by kernel_rfl] at e1
  have h2 : DataW.trod enc Try.prog W 0 (fun _ => true) true n' 24 ((cs.drop 2).take (Try.prog.cellsOf 24)) = some (ys[2]'(by rw [hyl]; decide)) := (hfd 2 fd_26_2 rfl).trans (List.getElem?_eq_getElem _)
  obtain ⟨u2, e2, r2⟩ := (inferInstance : Opn Try.prog 24 (Sl Int) _ _).opn h2
  rw [show Try.prog.cellsOf 24 = 1 by kernel_rfl] at e2
  have h3 : DataW.trod enc Try.prog W 0 (fun _ => true) true n' 24 ((cs.drop 3).take (Try.prog.cellsOf 24)) = some (ys[3]'(by rw [hyl]; decide)) := (hfd 3 fd_26_3 rfl).trans (List.getElem?_eq_getElem _)
  obtain ⟨u3, e3, r3⟩ := (inferInstance : Opn Try.prog 24 (Sl Int) _ _).opn h3
  rw [show Try.prog.cellsOf 24 = 1 by kernel_rfl] at e3
  refine ⟨⟨u0, u1, u2, u3⟩, ?_, r0, r1, r2, r3⟩
  have hcs : cs = (cs.drop 0).take 1 ++ ((cs.drop 1).take 1 ++ ((cs.drop 2).take 1 ++ ((cs.drop 3).take 1 ++ (cs.drop 4)))) := by
    conv => lhs; rw [← List.drop_zero (l := cs)]
    conv => lhs; rw [cut_drop cs 0 1]
    conv => lhs; arg 2; rw [cut_drop cs 1 1]
    conv => lhs; arg 2; arg 2; rw [cut_drop cs 2 1]
    conv => lhs; arg 2; arg 2; arg 2; rw [cut_drop cs 3 1]
  rw [show cs.drop 4 = [] from List.drop_eq_nil_of_le (by omega)] at hcs
  refine hcs.trans ?_
  rw [e0, e1, e2, e3]; rfl⟩
instance : Opn Try.prog 32 (Iof .u64) (by infer_instance) (by infer_instance) := opn_iof U_32
instance : Opn Try.prog 39 (Sl CutNet) (by infer_instance) (by infer_instance) := opn_slice U_39 inferInstance (by kernel_rfl)
instance : Opn Try.prog 46 (Sl Bool) (by infer_instance) (by infer_instance) := opn_slice U_46 inferInstance (by kernel_rfl)
instance : Opn Try.prog 53 (Sl (Sl Int)) (by infer_instance) (by infer_instance) := opn_slice U_53 inferInstance (by kernel_rfl)
instance : Opn Try.prog 60 CutArc (by infer_instance) (by infer_instance) := ⟨fun {H enc W fuel cs x} h => by
  obtain ⟨ys, n', _, _, hlen, hyl, hfd⟩ := DataW.trod_struct U_60 h
  have hlen : cs.length = 2 := hlen.trans (by kernel_rfl)
  have hyl : ys.length = 2 := hyl
  have h0 : DataW.trod enc Try.prog W 0 (fun _ => true) true n' 3 ((cs.drop 0).take (Try.prog.cellsOf 3)) = some (ys[0]'(by rw [hyl]; decide)) := (hfd 0 fd_60_0 rfl).trans (List.getElem?_eq_getElem _)
  obtain ⟨u0, e0, r0⟩ := (inferInstance : Opn Try.prog 3 (Int) _ _).opn h0
  rw [show Try.prog.cellsOf 3 = 1 by kernel_rfl] at e0
  have h1 : DataW.trod enc Try.prog W 0 (fun _ => true) true n' 2 ((cs.drop 1).take (Try.prog.cellsOf 2)) = some (ys[1]'(by rw [hyl]; decide)) := (hfd 1 fd_60_1 rfl).trans (List.getElem?_eq_getElem _)
  obtain ⟨u1, e1, r1⟩ := (inferInstance : Opn Try.prog 2 (Int) _ _).opn h1
  rw [show Try.prog.cellsOf 2 = 1 by kernel_rfl] at e1
  refine ⟨⟨u0, u1⟩, ?_, r0, r1⟩
  have hcs : cs = (cs.drop 0).take 1 ++ ((cs.drop 1).take 1 ++ (cs.drop 2)) := by
    conv => lhs; rw [← List.drop_zero (l := cs)]
    conv => lhs; rw [cut_drop cs 0 1]
    conv => lhs; arg 2; rw [cut_drop cs 1 1]
  rw [show cs.drop 2 = [] from List.drop_eq_nil_of_le (by omega)] at hcs
  refine hcs.trans ?_
  rw [e0, e1]; rfl⟩
instance : Opn Try.prog 55 (Sl CutArc) (by infer_instance) (by infer_instance) := opn_slice U_55 inferInstance (by kernel_rfl)
instance : Opn Try.prog 57 CutFlow (by infer_instance) (by infer_instance) := ⟨fun {H enc W fuel cs x} h => by
  obtain ⟨ys, n', _, _, hlen, hyl, hfd⟩ := DataW.trod_struct U_57 h
  have hlen : cs.length = 2 := hlen.trans (by kernel_rfl)
  have hyl : ys.length = 2 := hyl
  have h0 : DataW.trod enc Try.prog W 0 (fun _ => true) true n' 55 ((cs.drop 0).take (Try.prog.cellsOf 55)) = some (ys[0]'(by rw [hyl]; decide)) := (hfd 0 fd_57_0 rfl).trans (List.getElem?_eq_getElem _)
  obtain ⟨u0, e0, r0⟩ := (inferInstance : Opn Try.prog 55 (Sl CutArc) _ _).opn h0
  rw [show Try.prog.cellsOf 55 = 1 by kernel_rfl] at e0
  have h1 : DataW.trod enc Try.prog W 0 (fun _ => true) true n' 53 ((cs.drop 1).take (Try.prog.cellsOf 53)) = some (ys[1]'(by rw [hyl]; decide)) := (hfd 1 fd_57_1 rfl).trans (List.getElem?_eq_getElem _)
  obtain ⟨u1, e1, r1⟩ := (inferInstance : Opn Try.prog 53 (Sl (Sl Int)) _ _).opn h1
  rw [show Try.prog.cellsOf 53 = 1 by kernel_rfl] at e1
  refine ⟨⟨u0, u1⟩, ?_, r0, r1⟩
  have hcs : cs = (cs.drop 0).take 1 ++ ((cs.drop 1).take 1 ++ (cs.drop 2)) := by
    conv => lhs; rw [← List.drop_zero (l := cs)]
    conv => lhs; rw [cut_drop cs 0 1]
    conv => lhs; arg 2; rw [cut_drop cs 1 1]
  rw [show cs.drop 2 = [] from List.drop_eq_nil_of_le (by omega)] at hcs
  refine hcs.trans ?_
  rw [e0, e1]; rfl⟩
instance : Opn Try.prog 72 (Iof .u32) (by infer_instance) (by infer_instance) := opn_iof U_72
theorem foI : Try.prog.follows .mixedOrders = true := by kernel_rfl
instance : IsFc Try.prog 3 := ⟨_, F_3⟩
instance : IsFc Try.prog 4 := ⟨_, F_4⟩
instance : IsFc Try.prog 5 := ⟨_, F_5⟩
instance : IsFc Try.prog 6 := ⟨_, F_6⟩
instance : IsFc Try.prog 7 := ⟨_, F_7⟩
instance : IsFc Try.prog 8 := ⟨_, F_8⟩
instance : IsFc Try.prog 9 := ⟨_, F_9⟩
instance : IsFc Try.prog 10 := ⟨_, F_10⟩
instance : IsFc Try.prog 11 := ⟨_, F_11⟩
instance : IsFc Try.prog 12 := ⟨_, F_12⟩
instance : IsFc Try.prog 13 := ⟨_, F_13⟩
instance : IsFc Try.prog 14 := ⟨_, F_14⟩
instance : IsFc Try.prog 15 := ⟨_, F_15⟩
instance : IsFc Try.prog 16 := ⟨_, F_16⟩
instance : IsFc Try.prog 17 := ⟨_, F_17⟩
instance : IsFc Try.prog 18 := ⟨_, F_18⟩
instance : IsFc Try.prog 19 := ⟨_, F_19⟩
instance : IsFc Try.prog 20 := ⟨_, F_20⟩
instance : IsFc Try.prog 21 := ⟨_, F_21⟩
instance : IsFc Try.prog 22 := ⟨_, F_22⟩
instance : IsFc Try.prog 23 := ⟨_, F_23⟩
instance : IsFc Try.prog 24 := ⟨_, F_24⟩
instance : IsFc Try.prog 25 := ⟨_, F_25⟩
instance : IsFc Try.prog 26 := ⟨_, F_26⟩
instance : IsFc Try.prog 27 := ⟨_, F_27⟩
instance : IsFc Try.prog 28 := ⟨_, F_28⟩
instance : IsFc Try.prog 29 := ⟨_, F_29⟩
instance : IsFc Try.prog 30 := ⟨_, F_30⟩
instance : IsFc Try.prog 31 := ⟨_, F_31⟩
instance : IsFc Try.prog 32 := ⟨_, F_32⟩
instance : IsFc Try.prog 33 := ⟨_, F_33⟩
instance : IsFc Try.prog 34 := ⟨_, F_34⟩
instance : IsFc Try.prog 35 := ⟨_, F_35⟩
end Go.Proofs.Ytmmjecopcjkeaaa
