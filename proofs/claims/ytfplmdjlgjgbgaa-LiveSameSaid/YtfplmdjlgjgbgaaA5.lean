/- What was proved in the elder way, said in the newer one. -/
import Derived.Test.YtfplmdjlgjgbgaaA4
namespace Go.Proofs.Ytfplmdjlgjgbgaa
set_option linter.unusedVariables false
set_option linter.unusedSimpArgs false
open Go Go.RowKit

theorem spec0 {P : Program} {g : FuncId} {vs : List Value} {Rd : FP → World → Prop} {RR : Value → List HP → Prop} (h : ∀ w, Rd (okOf w fun _ => False) w → CallsV P g vs.toArray w fun v w' => ∃ L', RR v L' ∧ St w (fun _ => False) L' w') : Spec P g vs [] Rd RR := by
  intro w1 f1 hs hr
  have : f1 = fun _ => False := by funext b; exact propext ⟨fun hb => hs b hb, fun hb => hb.elim⟩
  subst this
  exact h w1 hr
section
variable {P : Program} {n : Nat} {w0 w : World} {f0 : FP} {ops : Array Oper} {rest : List Oper} {QC : Exit → Fr → World → Prop} {f : Fr} {L : List HP} {ty : TypeId} {pos : String} {after : Array Edge}
/-- A call that is handed nothing to keep. -/
theorem s_call0 {d : Option Tmp} {g : FuncId} {vs : List Value} {Rd : FP → World → Prop} {RR : Value → List HP → Prop} {lo : List Operand} {ats : Array TypeId} (spec : Spec P g vs [] Rd RR) [hF : IsFc P g] (hv : lo.map (ev f) = vs)
    (hrd : ∀ w1, St w0 f0 L w1 → Rd (okOf w1 fun _ => False) w1) (hn : ∀ v L', RR v L' → sO P n w0 f0 ops false rest QC (upO f d v) (L' ++ L)) (hd : dOk n d = true := by rfl) :
    sO P n w0 f0 ops false (⟨d, .call { callee := .value (.func g), args := lo.toArray, argTypes := ats }, ty, pos, after, none⟩ :: rest) QC f L := by
  intro w H
  obtain ⟨fn, hF⟩ := hF.ex
  refine o_callN hF hv (spec w (fun _ => False) (fun _ h => h) (hrd w H)) (fun v w' ⟨L', hR, hs⟩ => hn v L' hR w' ?_) hd
  have := H.call0 L' w' hs
  have h2 : St w0 f0 (L ++ L') w' := this
  exact h2.rot
theorem St.rdD {α : Type} [Enc α] [Dp α] (H : St w0 f0 L w) {x : α} (h : RdD (okOf w0 f0) w0 x) : RdD (okOf w fun _ => False) w x := h.loc H.ok0
theorem St.rdO {α : Type} [I : Enc α] {e : TypeId} {A : Option Addr} {l c : Nat} {xs : List α} {put : HP → List HP} (H : St w0 f0 L w) [h : Pc L A (own (I := I) e A l c xs) put] : xs.length = l ∧ RdSl (okOf w fun _ => False) w (⟨A, c, xs⟩ : Sl α) := by
  obtain ⟨i, hi, _⟩ := h.at_
  obtain ⟨g, hA, _⟩ := H.focus i hi
  have hl := own.len hA
  refine ⟨hl.1, ?_⟩
  have := row.rd (show (row A l c e I.sz (xs.flatMap I.enc)).sat w g from hA) (ok := okOf w fun _ => False) fun b hb => ⟨(own e A l c xs).dom hA b hb, id⟩
  unfold RdSl
  rw [show (⟨A, c, xs⟩ : Sl α).xs.length = l from hl.1]
  exact this
/-- A region in drawn order: what only reads, and behind it a chain. -/
def QCF (F : Fr) : Exit → Fr → World → Prop := fun _ f' _ => f' = F
theorem e_F {fr : Fr} : sE w0 f0 (QCF fr) .normal fr L := fun _ _ => rfl
theorem s_tail {id : Nat} {l : List Oper} {F : Fr} (N : Nat) (rs : List Nat) (hm : P.follows .mixedOrders = true) (hB : mixB .any n l N rs [] = true) (hread : sO P n w0 f0 l.toArray true (opsAt l rs) (QCF F) f L) (hrest : sO P n w0 f0 l.toArray false (l.drop N) QC F L) : sC P n w0 f0 (.region id l.toArray true) QC f L := by
  intro w H
  refine wC_mix (J := fun w' => St w0 f0 L w') N rs [] F hm hB (H.idle (Step.drew w _)) (fun w' H' => hread w' H') ?_
  simp only [opsAt, List.filterMap_nil, wJ]
  exact hrest _ (H.idle (Step.drew w _))
class PtT (P : Program) (t : TypeId) : Prop where
  u : ∃ e, P.underlying t = some (.pointer e)
variable {m : Bool} {d : Tmp} {x y : Operand} {t yt : TypeId}
theorem run_pnil' {e : TypeId} {p : Option Addr} (m : Nat) (ht : P.underlying t = some (.pointer e)) : (Op.equalIn (m + 1) t (.pointer p) (.pointer none)).run P w = .ok p.isNone w := by
  cases p <;> simp [Op.equalIn, run_underlying ht]
/-- a pointer against nil -/
theorem s_pnil [h : PtT P t] {p : Option Addr} (hx : ev f x = .pointer p) (hy : ev f y = .pointer none) (hn : sO P n w0 f0 ops m rest QC (up f d (.bool p.isNone)) L) (hd : Nat.blt d n = true := by rfl) :
    sO P n w0 f0 ops m (⟨some d, .binOp .eql t x y yt, ty, pos, after, none⟩ :: rest) QC f L := by
  intro w H
  obtain ⟨e, ht⟩ := h.u
  refine o_pure (v := .bool p.isNone) rfl hd ?_ (hn w H)
  show (Sem.run P (do pure (Next.value (← (do eqGuard .eql t x y (ev f x) (ev f y); binOp .eql t (ev f x) (ev f y))))) w) = _
  rw [hx, hy]
  have he : (Op.equal t (.pointer p) (.pointer none)).run P w = .ok p.isNone w := run_pnil' 9999 ht
  simp [eqGuard, binOp, he, Result.andThen]
theorem s_snil {e : TypeId} [h : SlT P t e] {A : Option Addr} {l c : Nat} (hx : ev f x = .slice A l c) (hy : ev f y = .slice none 0 0) (hn : sO P n w0 f0 ops m rest QC (up f d (.bool A.isNone)) L) (hd : Nat.blt d n = true := by rfl) :
    sO P n w0 f0 ops m (⟨some d, .binOp .eql t x y yt, ty, pos, after, none⟩ :: rest) QC f L := fun w H => o_snil h.u hx hy (hn w H) hd
end
theorem flat_one {α : Type} (f : α → Value) (l : List α) : l.flatMap (fun x => [f x]) = l.map f := by
  induction l with
  | nil => rfl
  | cons x l ih => rw [List.flatMap_cons, ih]; rfl
theorem own_bool {e : TypeId} {A : Option Addr} {l c : Nat} (r : List Bool) : row A l c e 1 (r.map Value.bool) = own e A l c r := by
  unfold own
  show _ = row A l c e 1 (r.flatMap fun x => [.bool x])
  rw [flat_one]
theorem own_int {e : TypeId} {A : Option Addr} {l c : Nat} (r : List Int) : row A l c e 1 (r.map (Value.int .i64)) = own e A l c r := by
  unfold own
  show _ = row A l c e 1 (r.flatMap fun x => [.int .i64 x])
  rw [flat_one]
def toSl {α : Type} (x : Hd α) : Sl α := ⟨x.1.1, x.1.2, x.2⟩
theorem own_heads {α : Type} {e : TypeId} {A : Option Addr} {l c : Nat} (hs : List (Hd α)) : row A l c e 1 (hs.map hdv) = own e A l c (hs.map toSl) := by
  unfold own
  show _ = row A l c e 1 ((hs.map toSl).flatMap fun s => [.slice s.A s.xs.length s.c])
  rw [flat_one, List.map_map]; rfl
theorem rws_heads {α : Type} [I : Enc α] {e : TypeId} (f : α → Value) (hf : ∀ x, I.enc x = [f x]) (hz : I.sz = 1) (hs : List (Hd α)) : star (hs.map (hrow f e)) = rws e (hs.map toSl) := by
  unfold rws
  rw [List.map_map]
  congr 1
  refine List.map_congr_left fun x _ => ?_
  show row x.1.1 x.2.length x.1.2 e 1 (x.2.map f) = row x.1.1 x.2.length x.1.2 e I.sz (x.2.flatMap I.enc)
  rw [hz]
  congr 1
  have : I.enc = fun x => [f x] := funext hf
  rw [this, flat_one]
end Go.Proofs.Ytfplmdjlgjgbgaa
