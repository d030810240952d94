/- Pieces in pieces; calls with other results than one; what is only read, read at depth. -/
import Derived.Test.YtfplmdjlgjgbgaaKx
namespace Go.Proofs.Ytfplmdjlgjgbgaa
set_option linter.unusedVariables false
set_option linter.unusedSimpArgs false
open Go Go.RowKit

/-- Many pieces as one. -/
def star (L : List HP) : HP where
  sat w f := SF L w f
  loc := SF.loc
  dom := SF.dom

section
variable {w0 w : World} {f0 : FP} {L : List HP}

theorem St.pull (H : St w0 f0 L w) (i : Nat) {Ls : List HP} (hi : L[i]? = some (star Ls)) (j : Nat) {R : HP} (hj : Ls[j]? = some R) : St w0 f0 (L.set i (star (Ls.eraseIdx j)) ++ [R]) w := by
  obtain ⟨f, hf, hfb⟩ := H.sf
  obtain ⟨f1, f2, e1, e2, e3, e4, e5⟩ := hf.focus i hi
  obtain ⟨g1, g2, k1, k2, k3, k4, _⟩ := SF.focus j (show SF Ls w f1 from e3) hj
  refine ⟨H.step, fun b => (g2 b ∨ f2 b) ∨ g1 b, SF.app.2 ⟨fun b => g2 b ∨ f2 b, g1, fun b => Iff.rfl, ?_, ?_, SF.one k3⟩, ?_⟩
  · rintro b (hb | hb) h1
    · exact k2 b h1 hb
    · exact e2 b ((k1 b).2 (.inl h1)) hb
  · exact e5 w (star (Ls.eraseIdx j)) g2 f2 k4 e4 fun b hb hb2 => e2 b ((k1 b).2 (.inr hb)) hb2
  · rintro b ((hb | hb) | hb)
    · exact hfb b ((e1 b).2 (.inl ((k1 b).2 (.inr hb))))
    · exact hfb b ((e1 b).2 (.inr hb))
    · exact hfb b ((e1 b).2 (.inl ((k1 b).2 (.inl hb))))

/-- A piece laid into many, at its place. -/
theorem SF.ins {R : HP} : ∀ {Ls : List HP} (j : Nat) {g1 g2 : FP}, j < Ls.length → SF (Ls.eraseIdx j) w g2 → R.sat w g1 → (∀ b, g1 b → ¬ g2 b) → SF (Ls.set j R) w (fun b => g1 b ∨ g2 b)
  | [], j, _, _, hj, _, _, _ => absurd hj (Nat.not_lt_zero _)
  | B :: Ls, 0, g1, g2, _, h2, h1, hd => ⟨g1, g2, fun b => Iff.rfl, hd, h1, h2⟩
  | B :: Ls, j + 1, g1, g2, hj, h2, h1, hd => by
    obtain ⟨p1, p2, e1, e2, e3, e4⟩ := h2
    have ih := SF.ins (R := R) (Ls := Ls) j (by simpa using hj) e4 h1 fun b hb hp => hd b hb ((e1 b).2 (.inr hp))
    refine ⟨p1, fun b => g1 b ∨ p2 b, fun b => ?_, fun b hb hk => ?_, e3, ih⟩
    · show (g1 b ∨ g2 b) ↔ (p1 b ∨ (g1 b ∨ p2 b))
      rw [e1]; exact ⟨fun h => by rcases h with h | h | h <;> simp [h], fun h => by rcases h with h | h | h <;> simp [h]⟩
    · rcases hk with hk | hk
      · exact hd b hk ((e1 b).2 (.inl hb))
      · exact e2 b hb hk

theorem St.push {L1 : List HP} {R : HP} (H : St w0 f0 (L1 ++ [R]) w) (i : Nat) {Ls : List HP} (j : Nat) (hi : L1[i]? = some (star (Ls.eraseIdx j))) (hj : j < Ls.length) : St w0 f0 (L1.set i (star (Ls.set j R))) w := by
  obtain ⟨f, hf, hfb⟩ := H.sf
  obtain ⟨f1, f2, e1, e2, e3, e4⟩ := SF.app.1 hf
  have e4 := SF.of_one e4
  obtain ⟨g1, g2, k1, k2, k3, k4, k5⟩ := SF.focus i e3 hi
  have hs := SF.ins (R := R) j hj (show SF (Ls.eraseIdx j) w g1 from k3) e4 fun b hb hb2 => e2 b ((k1 b).2 (.inl hb2)) hb
  refine ⟨H.step, _, k5 w (star (Ls.set j R)) (fun b => f2 b ∨ g1 b) g2 hs k4 ?_, ?_⟩
  · rintro b (hb | hb) hb2
    · exact e2 b ((k1 b).2 (.inr hb2)) hb
    · exact k2 b hb hb2
  · rintro b ((hb | hb) | hb)
    · exact hfb b ((e1 b).2 (.inr hb))
    · exact hfb b ((e1 b).2 (.inl ((k1 b).2 (.inl hb))))
    · exact hfb b ((e1 b).2 (.inl ((k1 b).2 (.inr hb))))

/-- Some pieces made one; and one piece more for it. -/
theorem St.star0 (H : St w0 f0 L w) : St w0 f0 (L ++ [star []]) w :=
  H.add _ (Step.refl _ _) (g := fun _ => False) (fun _ h => h) fun _ h => h.elim
theorem St.more {L1 : List HP} {R : HP} (H : St w0 f0 (L1 ++ [R]) w) (i : Nat) {Ls : List HP} (hi : L1[i]? = some (star Ls)) : St w0 f0 (L1.set i (star (Ls ++ [R]))) w := by
  have h1 : (Ls ++ [R]).eraseIdx Ls.length = Ls := by
    rw [List.eraseIdx_append_of_length_le (Nat.le_refl _), Nat.sub_self]; simp
  have h2 : (Ls ++ [R]).set Ls.length R = Ls ++ [R] := by
    rw [List.set_append_right _ _ (Nat.le_refl _), Nat.sub_self]; rfl
  have := H.push (Ls := Ls ++ [R]) i Ls.length (by rw [h1]; exact hi) (by simp)
  rwa [h2] at this
end

/-! ### rows of structs, as lists -/
section
variable {α : Type} {f : α → List Value} {sz : Nat}
theorem flat_len {l : List α} (h : ∀ a ∈ l, (f a).length = sz) : (l.flatMap f).length = l.length * sz := by
  induction l with
  | nil => simp
  | cons x l ih =>
    rw [List.flatMap_cons, List.length_append, ih fun a ha => h a (by simp [ha]), h x (by simp), List.length_cons, Nat.succ_mul, Nat.add_comm]
theorem flat_drop {l : List α} (h : ∀ a ∈ l, (f a).length = sz) : ∀ j, (l.flatMap f).drop (j * sz) = (l.drop j).flatMap f := by
  induction l with
  | nil => intro j; simp
  | cons x l ih =>
    intro j
    cases j with
    | zero => simp
    | succ j =>
      rw [List.flatMap_cons, Nat.succ_mul, Nat.add_comm, ← List.drop_drop, List.drop_left' (h x (by simp)), ih (fun a ha => h a (by simp [ha])) j]; rfl
theorem flat_at {l : List α} (h : ∀ a ∈ l, (f a).length = sz) {j : Nat} {a : α} (ha : l[j]? = some a) : ((l.flatMap f).drop (j * sz)).take sz = f a := by
  rw [flat_drop h]
  obtain ⟨hj, he⟩ := List.getElem?_eq_some_iff.1 ha
  rw [List.drop_eq_getElem_cons hj, he, List.flatMap_cons, List.take_left' (h a (List.mem_of_getElem? ha))]
theorem flat_get {l : List α} (h : ∀ a ∈ l, (f a).length = sz) {j o : Nat} {a : α} (ha : l[j]? = some a) (ho : o < sz) : (l.flatMap f)[j * sz + o]? = (f a)[o]? := by
  have := congrArg (fun l => l[o]?) (flat_at h ha)
  simp only [List.getElem?_take_of_lt ho, List.getElem?_drop] at this
  exact this
theorem flat_set {l : List α} (h : ∀ a ∈ l, (f a).length = sz) {j : Nat} {a : α} (hj : j < l.length) (ha : (f a).length = sz) : lay (l.flatMap f) (j * sz) (f a) = (l.set j a).flatMap f := by
  have h1 := flat_drop h (j + 1)
  have ht : (l.flatMap f).take (j * sz) = (l.take j).flatMap f := by
    conv => lhs; rw [← List.take_append_drop j l, List.flatMap_append]
    rw [List.take_left']
    rw [flat_len fun a ha => h a (List.mem_of_mem_take ha), List.length_take]
    rw [Nat.min_eq_left (Nat.le_of_lt hj)]
  unfold lay
  rw [ha, ← Nat.succ_mul, h1, ht, List.set_eq_take_append_cons_drop, if_pos hj]
  simp [List.flatMap_append]
end

theorem St.rdStar {w0 w : World} {f0 : FP} {L : List HP} (H : St w0 f0 L w) (i : Nat) {Ls : List HP} (hi : L[i]? = some (star Ls)) (j : Nat) {A : Option Addr} {n c : Nat} {e : TypeId} {sz : Nat} {cs : List Value} (hj : Ls[j]? = some (row A n c e sz cs)) : RdS (okOf w fun _ => False) w A n c sz cs := by
  have := H.pull i hi j hj
  exact this.rdR (e := e) L.length (by rw [List.getElem?_append_right (by simp)]; simp)

/-- Slices of slices, only read. -/
def Rd2 {α : Type} (enc : α → Value) (ok : FP) (w : World) (A : Option Addr) (n c : Nat) (ls : List (List α)) : Prop :=
  ls.length = n ∧ ∃ hs : List Value, RdS ok w A n c 1 hs ∧ ∀ (j : Nat) l, ls[j]? = some l → ∃ A' c', hs[j]? = some (.slice A' l.length c') ∧ RdS ok w A' l.length c' 1 (l.map enc)
theorem Rd2.loc {α : Type} {enc : α → Value} {ok ok' : FP} {w w' : World} {A : Option Addr} {n c : Nat} {ls : List (List α)} (h : Rd2 enc ok w A n c ls) (hk : ∀ b, ok b → ok' b ∧ w'.heap[b]? = w.heap[b]?) : Rd2 enc ok' w' A n c ls := by
  obtain ⟨h0, hs, h1, h2⟩ := h
  refine ⟨h0, hs, h1.loc hk, fun j l hj => ?_⟩
  obtain ⟨A', c', h3, h4⟩ := h2 j l hj
  exact ⟨A', c', h3, h4.loc hk⟩

/-- Heads of rows, and the rows. -/
abbrev Hd (α : Type) := (Option Addr × Nat) × List α
def hdv {α : Type} (x : Hd α) : Value := .slice x.1.1 x.2.length x.1.2
def hrow {α : Type} (enc : α → Value) (e : TypeId) (x : Hd α) : HP := row x.1.1 x.2.length x.1.2 e 1 (x.2.map enc)
theorem hdv_one {α : Type} (L : List (Hd α)) : ∀ u ∈ L.map hdv, u.oneCell' = true := by
  intro u hu
  obtain ⟨x, _, rfl⟩ := List.mem_map.1 hu
  rfl

/-- Rows of the call's own, as they may be read. -/
theorem St.rd2 {α : Type} {enc : α → Value} {w0 w : World} {f0 : FP} {L : List HP} (H : St w0 f0 L w) (i k : Nat) {A : Option Addr} {n c : Nat} {e e1 : TypeId} {hs : List (Hd α)} (hi : L[i]? = some (row A n c e1 1 (hs.map hdv))) (hk : L[k]? = some (star (hs.map (hrow enc e)))) (hn : hs.length = n) : Rd2 enc (okOf w fun _ => False) w A n c (hs.map (·.2)) := by
  refine ⟨by simpa using hn, hs.map hdv, H.rdR i hi, fun j l hj => ?_⟩
  rw [List.getElem?_map] at hj
  obtain ⟨x, hx, rfl⟩ := Option.map_eq_some_iff.1 hj
  refine ⟨x.1.1, x.1.2, by rw [List.getElem?_map, hx]; rfl, ?_⟩
  exact H.rdStar k hk j (e := e) (by rw [List.getElem?_map, hx]; rfl)

/-- n rows that are nothing yet. -/
theorem St.nils {w0 w : World} {f0 : FP} {L : List HP} (H : St w0 f0 L w) {α : Type} (enc : α → Value) (e : TypeId) : ∀ n, St w0 f0 (L ++ [star ((List.replicate n (((none, 0), []) : Hd α)).map (hrow enc e))]) w
  | 0 => H.star0
  | n + 1 => by
    have h1 := (St.nils H enc e n).addNil e 1
    have h2 := h1.more L.length (Ls := (List.replicate n (((none, 0), []) : Hd α)).map (hrow enc e)) (by rw [List.getElem?_append_right (Nat.le_refl _), Nat.sub_self]; rfl)
    rw [List.set_append_right _ _ (Nat.le_refl _), Nat.sub_self] at h2
    have : (List.replicate (n + 1) (((none, 0), []) : Hd α)).map (hrow enc e) = (List.replicate n (((none, 0), []) : Hd α)).map (hrow enc e) ++ [row none 0 0 e 1 []] := by
      rw [List.replicate_succ', List.map_append]; rfl
    rw [this]
    exact h2

/-! ### other results -/
def resF (P : Program) (fn : Func) (f : Fr) (w : World) (v : Value) : Prop := ∀ a, Sm fn.ntmps a f → (results fn a.tmps).run P w = .ok v w
def doneG (P : Program) (fn : Func) (R : Value → World → Prop) : Exit → Fr → World → Prop
  | .ret, f, w => ∃ v, resF P fn f w v ∧ R v w
  | .normal, f, w => ∃ v, resF P fn f w v ∧ R v w
  | _, _, _ => False

theorem calls_ofG {P : Program} {g : FuncId} {fn : Func} {c : Code} {args : List Value} {w : World} {R : Value → World → Prop}
    (hf : P.funcs[g]? = some fn) (hb : fn.body = some c) (hn : Nat.ble args.length fn.ntmps = true) (h : wC P fn.ntmps c (doneG P fn R) (fr0 args) w) : CallsV P g args.toArray w R := by
  have hn' : args.length ≤ fn.ntmps := Nat.le_of_ble_eq_true hn
  unfold wC at h
  refine calls_of_wp hf hb (wp_mono (h _ ⟨by simp; omega, fun i hi => ?_, fun i hi => ?_, rfl⟩) ?_)
  · show _ = some (args.getD i undef)
    rw [List.getD_eq_getElem?_getD]
    by_cases h1 : i < args.length
    · rw [Array.getElem?_append_left (by simpa using h1)]
      simp [h1]
    · rw [Array.getElem?_append_right (by simp; omega)]
      have h2 : args.length ≤ i := Nat.le_of_not_lt h1
      rw [List.getElem?_eq_none h2]
      rw [Array.getElem?_replicate, if_pos (by simp; omega)]
      rfl
  · show args.getD i undef = undef
    rw [List.getD_eq_getElem?_getD, List.getElem?_eq_none (by omega)]; rfl
  · rintro e a w1 ⟨f1, hf1, q⟩
    cases e with
    | ret => obtain ⟨v, hv, q⟩ := q; exact ⟨hf1.df, v, hv a hf1, v, rfl, q⟩
    | normal => obtain ⟨v, hv, q⟩ := q; exact ⟨hf1.df, v, hv a hf1, v, rfl, q⟩
    | _ => exact q.elim

theorem Sm.get {n : Nat} {a : Act} {f : Fr} (h : Sm n a f) {t : Nat} (ht : t < n) : a.tmps.getD t undef = f t := by
  rw [Array.getD_eq_getD_getElem?, h.at_ t ht]; rfl
theorem res_none {P : Program} {fn : Func} {f : Fr} {w : World} (hr : fn.results = #[]) : resF P fn f w (.tuple #[]) := fun a _ => results_none hr _ _ _
theorem res_two {P : Program} {fn : Func} {f : Fr} {w : World} {t u : Tmp} {x y : Value} (hr : fn.results = #[.tmp t, .tmp u]) (ht : Nat.blt t fn.ntmps = true) (hu : Nat.blt u fn.ntmps = true) (hx : f t = x) (hy : f u = y) : resF P fn f w (.tuple #[x, y]) := fun a ha => by
  rw [results_tmp2 hr, ha.get (by rw [← Nat.blt_eq]; exact ht), ha.get (by rw [← Nat.blt_eq]; exact hu), hx, hy]
theorem res_cell {P : Program} {fn : Func} {f : Fr} {w : World} {t : Tmp} {ty : TypeId} {ad : Addr} {v : Value} (hr : fn.results = #[.cell t ty]) (ht : Nat.blt t fn.ntmps = true) (hx : f t = .pointer (some ad)) (hl : (loadVar ty ad).run P w = .ok v w) : resF P fn f w v := fun a ha => by
  have e : a.tmps[t]?.getD undef = .pointer (some ad) := by
    rw [ha.at_ t (by rw [← Nat.blt_eq]; exact ht)]; exact hx
  simp [results, hr, e, asAddr, hl]

theorem o_callN {P : Program} {n : Nat} {ops : Array Oper} {rest : List Oper} {f : Fr} {w : World} {Q : Fr → World → Prop} {d : Option Tmp} {ty : TypeId} {pos : String} {after : Array Edge} {g : FuncId} {l : List Operand} {vs : List Value} {ats : Array TypeId} {R : Value → World → Prop} {fn : Func} (hF : IsF P g fn) (hv : l.map (ev f) = vs) (hc : CallsV P g vs.toArray w R)
    (h : ∀ v w', R v w' → wO P ops n false rest Q (upO f d v) w') (hd : dOk n d = true := by rfl) : wO P ops n false (⟨d, .call { callee := .value (.func g), args := l.toArray, argTypes := ats }, ty, pos, after, none⟩ :: rest) Q f w := by
  subst hv
  refine o_call (w' := w) (g := g) (args := (l.map (ev f)).toArray) rfl hd ?_ hc h
  obtain ⟨c, hcc⟩ := Option.isSome_iff_exists.1 hF.body
  simp [execOp, resolve, invoke, ev, Deferred.ofValue, callFunc, hF.here, hcc, hF.name]
end Go.Proofs.Ytfplmdjlgjgbgaa
