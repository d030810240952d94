/- Function values called; what a contract needs, carried on. -/
import Derived.Test.YtfplmdjlgjgbgaaA8
namespace Go.Proofs.Ytfplmdjlgjgbgaa
set_option linter.unusedVariables false
set_option linter.unusedSimpArgs false
open Go Go.RowKit

/-- What may be read may be read later, too. -/
def Lasts (Rd : FP → World → Prop) : Prop := ∀ (ok ok' : FP) (w w' : World), Rd ok w → (∀ b, ok b → ok' b ∧ w'.heap[b]? = w.heap[b]?) → Rd ok' w'
theorem Lasts.d {α : Type} [Enc α] [Dp α] (x : α) : Lasts fun ok w => RdD ok w x := fun _ _ _ _ h hk => h.loc hk
theorem Lasts.b {α : Type} [I : Enc α] (b : Nat) (x : α) : Lasts fun ok w => RdB (I := I) ok w b x := fun _ _ _ _ h hk => ⟨h.h.loc hk⟩
theorem Lasts.and {R1 R2 : FP → World → Prop} (h1 : Lasts R1) (h2 : Lasts R2) : Lasts fun ok w => R1 ok w ∧ R2 ok w := fun _ _ _ _ h hk => ⟨h1 _ _ _ _ h.1 hk, h2 _ _ _ _ h.2 hk⟩
theorem Lasts.true : Lasts fun _ _ => True := fun _ _ _ _ _ _ => trivial
theorem Lasts.at {Rd : FP → World → Prop} (h : Lasts Rd) {w0 w : World} {f0 : FP} {L : List HP} (hR : Rd (okOf w0 f0) w0) (H : St w0 f0 L w) : Rd (okOf w fun _ => False) w := h _ _ _ _ hR H.ok0
theorem Lasts.ctx {Rd : FP → World → Prop} (h : Lasts Rd) {w0 w1 : World} {f0 f1 : FP} {L1 L2 : List HP} (hR : Rd (okOf w0 f0) w0) (C : Ctx w0 f0 L1 L2 w1 f1) : Rd (okOf w1 f1) w1 := h _ _ _ _ hR (C.st.ok C.fp)
theorem Spec.weaken {P : Program} {g : FuncId} {vs : List Value} {L1 : List HP} {Rd Rd' : FP → World → Prop} {RR RR' : Value → List HP → Prop} (h : Spec P g vs L1 Rd RR) (hr : ∀ ok w, Rd' ok w → Rd ok w) (hq : ∀ v L', RR v L' → RR' v L') : Spec P g vs L1 Rd' RR' :=
  fun w1 f1 hs hR => (h w1 f1 hs (hr _ _ hR)).mono fun v w' ⟨L', h1, h2⟩ => ⟨L', hq v L' h1, h2⟩

section
variable {P : Program} {n : Nat} {w0 w : World} {f0 : FP} {ops : Array Oper} {rest : List Oper} {QC : Exit → Fr → World → Prop} {f : Fr} {L : List HP} {ty : TypeId} {pos : String} {after : Array Edge} {x : Operand}
theorem s_callV0 {d : Tmp} {g : FuncId} {vs captured : List Value} {Rd : FP → World → Prop} {RR : Value → List HP → Prop} {lo : List Operand} {ats : Array TypeId} (hx : ev f x = .func (.func g) #[] captured.toArray) (spec : Spec P g (vs ++ captured) [] Rd RR) [hF : IsFc P g] (hv : lo.map (ev f) = vs)
    (hrd : ∀ w1, St w0 f0 L w1 → Rd (okOf w1 fun _ => False) w1) (hn : ∀ v L', RR v L' → sO P n w0 f0 ops false rest QC (up f d v) (L' ++ L)) (hd : Nat.blt d n = true := by rfl) :
    sO P n w0 f0 ops false (⟨some d, .call { callee := .value x, args := lo.toArray, argTypes := ats }, ty, pos, after, none⟩ :: rest) QC f L := by
  intro w H
  obtain ⟨fn, hF⟩ := hF.ex
  refine o_callV hx hF hv (spec w (fun _ => False) (fun _ h => h) (hrd w H)) (fun v w' ⟨L', hR, hs⟩ => hn v L' hR w' ?_) hd
  have h2 : St w0 f0 (L ++ L') w' := H.call0 L' w' hs
  exact h2.rot
/-- handed over: the same with pieces -/
theorem s_callV {d : Tmp} {g : FuncId} {vs captured : List Value} {L1 L2 : List HP} {Rd : FP → World → Prop} {RR : Value → List HP → Prop} {lo : List Operand} {ats : Array TypeId} (is : List Nat) (hx : ev f x = .func (.func g) #[] captured.toArray) (spec : Spec P g (vs ++ captured) L1 Rd RR) [hF : IsFc P g] (hv : lo.map (ev f) = vs) (hL : pickL is L = (L1, L2))
    (hrd : ∀ w1 f1, Ctx w0 f0 L1 L2 w1 f1 → Rd (okOf w1 f1) w1) (hn : ∀ v L', RR v L' → sO P n w0 f0 ops false rest QC (up f d v) (L' ++ L2)) (hd : Nat.blt d n = true := by rfl) :
    sO P n w0 f0 ops false (⟨some d, .call { callee := .value x, args := lo.toArray, argTypes := ats }, ty, pos, after, none⟩ :: rest) QC f L := by
  intro w H
  obtain ⟨fn, hF⟩ := hF.ex
  have H2 := H.pick is
  rw [hL] at H2
  obtain ⟨f', hf, hfb⟩ := H2.sf
  obtain ⟨f1, f2, e1, e2, e3, e4⟩ := SF.app.1 hf
  have hb1 : ∀ b, f1 b → f0 b ∨ w0.heap.size ≤ b := fun b hb => hfb b ((e1 b).2 (.inl hb))
  refine o_callV hx hF hv (spec w f1 e3 (hrd w f1 ⟨H2, hb1, f2, e4, e2⟩)) (fun v w' ⟨L', hR, hs⟩ => hn v L' hR w' ?_) hd
  obtain ⟨hs1, g1, hg, hgb⟩ := hs
  refine ⟨H2.step.trans hs1 hb1, fun b => g1 b ∨ f2 b, SF.app.2 ⟨g1, f2, fun b => Iff.rfl, fun b hb hb2 => ?_, hg, e4.loc fun b hb => hs1.keep b (e4.dom b hb) fun h1 => e2 b h1 hb⟩, ?_⟩
  · rcases hgb b hb with h1 | h1
    · exact e2 b h1 hb2
    · exact absurd (e4.dom b hb2) (Nat.not_lt.2 h1)
  · rintro b (hb | hb)
    · rcases hgb b hb with h1 | h1
      · exact hb1 b h1
      · exact .inr (Nat.le_trans H2.step.size h1)
    · exact hfb b ((e1 b).2 (.inr hb))
end

/-! maps whose keys are read -/
section
variable {P : Program} {n : Nat} {w0 w : World} {f0 : FP} {ops : Array Oper} {m : Bool} {rest : List Oper} {QC : Exit → Fr → World → Prop} {f : Fr} {L : List HP} {x y z : Operand}
variable {d : Tmp} {ty t e kt : TypeId} {pos : String} {after : Array Edge} {α : Type} {E : EK P e α} {N : Nat} {F : Int → Option α} {put : HP → List HP} {b : Nat} {k : Int}
theorem s_putW [hm : MpT P t kt e] {yv : α} (hx : ev f x = .map (some b)) (hy : ev f y = .int .i64 k) [h : PcM L b (mp E kt b N F) put] (hv : ev f z = E.enc yv) [hw : RdD (okOf w0 f0) w0 k] (hg : E.good yv) (hN : N < 1000000000) (hn : sO P n w0 f0 ops false rest QC f (put (mp E kt b (N + 1) (upd F k (some yv))))) : sO P n w0 f0 ops false (⟨none, .mapUpdate t x y z, ty, pos, after, none⟩ :: rest) QC f L :=
  s_put hx hy hv (RdD.int hw) hg hN hn
theorem s_putIW [hm : MpT P t kt e] {yv : α} (hx : ev f x = .map (some b)) (hy : ev f y = .int .i64 k) [h : PcM L b (mp E kt b N F) put] (hv : ev f z = E.enc yv) [hw : RdD (okOf w0 f0) w0 k] (hg : E.good yv) (hN : N < 1000000000) (hn : sO P n w0 f0 ops false rest QC f (put (mp E kt b (N + 1) (upd F k (some yv))))) : sO P n w0 f0 ops false (⟨none, .insert t x y z, ty, pos, after, none⟩ :: rest) QC f L :=
  s_putI hx hy hv (RdD.int hw) hg hN hn
theorem s_lookW [hm : MpT P t kt e] [he : Ekc P e α E] (hx : ev f x = .map (some b)) (hy : ev f y = .int .i64 k) [h : PcM L b (mp E kt b N F) put] [hw : RdD (okOf w0 f0) w0 k] (hn : sO P n w0 f0 ops m rest QC (up f d (E.enc ((F k).getD E.zero))) L) (hd : Nat.blt d n = true := by rfl) : sO P n w0 f0 ops m (⟨some d, .lookup t x y false, ty, pos, after, none⟩ :: rest) QC f L := s_look hx hy (RdD.int hw) hn hd
theorem s_lookSW [hm : MpT P t kt e] [he : Ekc P e α E] {v : Option Nat} (hx : ev f x = .map v) (hy : ev f y = .int .i64 k) [h : RdMp E kt (okOf w0 f0) w0 v N F] [hw : RdD (okOf w0 f0) w0 k] (hn : sO P n w0 f0 ops m rest QC (up f d (E.enc ((F k).getD E.zero))) L) (hd : Nat.blt d n = true := by rfl) : sO P n w0 f0 ops m (⟨some d, .lookup t x y false, ty, pos, after, none⟩ :: rest) QC f L := s_lookS hx hy (RdD.int hw) hn hd
theorem s_delW [hm : MpT P t kt e] (hx : ev f x = .map (some b)) (hy : ev f y = .int .i64 k) [h : PcM L b (mp E kt b N F) put] [hw : RdD (okOf w0 f0) w0 k] (hn : sO P n w0 f0 ops false rest QC (up f d (.tuple #[])) (put (mp E kt b N (upd F k none)))) (hd : Nat.blt d n = true := by rfl) : sO P n w0 f0 ops false (⟨some d, .call { callee := .builtin .delete, args := #[x, y], argTypes := #[t, kt] }, ty, pos, after, none⟩ :: rest) QC f L := s_del hx hy (RdD.int hw) hn hd
end
/-- What plain reckoning over lengths shows. -/
theorem om {p : Prop} (h : p := by first | omega | (simp only [dflt_int, List.length_set, List.length_replicate, List.length_append, List.length_cons, List.length_nil, List.length_take, List.length_drop]; omega)) : p := h
end Go.Proofs.Ytfplmdjlgjgbgaa
