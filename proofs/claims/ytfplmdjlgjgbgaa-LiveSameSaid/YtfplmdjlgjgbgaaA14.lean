/- Regions in drawn order, whatever order: each order that may be is gone through. -/
import Derived.Test.YtfplmdjlgjgbgaaA13
namespace Go.Proofs.Ytfplmdjlgjgbgaa
set_option linter.unusedVariables false
set_option linter.unusedSimpArgs false
open Go Go.RowKit

def drB (l : List Oper) (N : Nat) : Bool := Region.noSelect l.toArray && Nat.blt N l.length && Region.sinkB .any l.toArray N && Region.chainB .any l.toArray N
structure DrB (l : List Oper) (N : Nat) : Prop where
  sel : Region.noSelect l.toArray = true
  n : N < l.length
  s : Region.sinkB .any l.toArray N = true
  c : Region.chainB .any l.toArray N = true
theorem drB_of {l : List Oper} {N : Nat} (h : drB l N = true) : DrB l N := by
  simp only [drB, Bool.and_eq_true] at h
  exact ⟨h.1.1.1, by rw [← Nat.blt_eq]; exact h.1.1.2, h.1.2, h.2⟩
section
variable {P : Program} {n : Nat} {w : World} {f : Fr}
def wDJ (P : Program) (n : Nat) (l : List Oper) (N : Nat) (J : World → Prop) (Qf : Fr → World → Prop) (fuel : Nat) (listed : Array Bool) (f : Fr) (w : World) : Prop :=
  HeadInv .any l.toArray N listed → J w → ∀ a, Sm n a f → wpJ P .any l.toArray J N (fun e a' w' => e = .normal ∧ ∃ f', Sm n a' f' ∧ Qf f' w') fuel listed a w
variable {l : List Oper} {N : Nat} {J : World → Prop} {Qf : Fr → World → Prop} {fuel : Nat} {listed li' : Array Bool}
theorem wD_end (hD : DrB l N) (hB : seqAt .any l.toArray ((List.range (l.length - N)).map (N + ·)) listed = true) (hf : fuel = l.length - N) (h : wO P l.toArray n false (l.drop N) Qf f w) : wDJ P n l N J Qf fuel listed f w := by
  intro inv hJ a hs
  have hn := hD.n
  have := wpJ_of_seq (J := J) (N := N) (md := .any) (l := l) (Q := fun e a' w' => e = .normal ∧ ∃ f', Sm n a' f' ∧ Qf f' w') (Qf := Qf) (fun f a w hs q => ⟨rfl, f, hs, q⟩) (fun e a w he h => he h.1) [] ((List.range (l.length - N)).map (N + ·)) listed f a w (fun k hk => by cases hk) (fun k hk => by
      obtain ⟨i, hi, rfl⟩ := List.mem_map.1 hk
      have := List.mem_range.1 hi
      omega) hs hB (by
      simp only [opsAt, List.filterMap_nil, wJ]
      change wO P l.toArray n false (opsAt l ((List.range (l.length - N)).map (N + ·))) Qf f w
      rw [opsAt_drop l _ N (by omega)]; exact h)
  rw [hf]
  simpa using this
theorem wD_rd (hD : DrB l N) (rs : List Nat) (F : Fr) (hB : (dstsB n (opsAt l rs) && rdAt .any l.toArray N (fun li => decide (li = li')) rs listed) = true) (hread : ∀ w', J w' → wO P l.toArray n true (opsAt l rs) (fun f' _ => f' = F) f w') (h : wDJ P n l N J Qf fuel li' F w) : wDJ P n l N J Qf (rs.length + fuel) listed f w := by
  intro inv hJ a hs
  rw [Bool.and_eq_true] at hB
  refine wpJ_rds (F := F) (fun e a w he h => he h.1) hD.sel hD.s hD.c (by simpa using hD.n) (fun li => decide (li = li')) rs listed a hs.size inv hB.1 hB.2 hJ (fun w' hw' => wC_mix.stillMono (fun a' h => by obtain ⟨f', h5, h6⟩ := h; exact h6 ▸ h5) (wO_still (hread w' hw') hs)) fun a' li hs' inv' hk => ?_
  have hk := of_decide_eq_true hk
  subst hk
  exact h inv' hJ a' hs'
def AllI (p : Nat → Prop) : List Nat → Prop
  | [] => True
  | i :: is => p i ∧ AllI p is
theorem AllI.mem {p : Nat → Prop} : ∀ {is : List Nat}, AllI p is → ∀ i ∈ is, p i
  | _ :: _, ⟨h, k⟩, i, hi => by
    rcases List.mem_cons.1 hi with rfl | hi
    · exact h
    · exact k.mem i hi
theorem wD_all (rs : List Nat) (hr : (decide (Region.ready .any l.toArray listed = rs) && !rs.isEmpty && rs.all fun i => Nat.blt i N && Nat.blt i l.length) = true)
    (h : ∀ i ∈ rs, wO P l.toArray n false (opsAt l [i]) (fun f' w' => J w' ∧ wDJ P n l N J Qf fuel (listed.setIfInBounds i true) f' w') f w) : wDJ P n l N J Qf (fuel + 1) listed f w := by
  intro inv hJ a hs
  simp only [Bool.and_eq_true, decide_eq_true_eq, Bool.not_eq_true'] at hr
  obtain ⟨⟨hrd, hne⟩, hlt⟩ := hr
  refine ⟨fun h1 => ?_, fun i hi => ?_⟩
  · rw [hrd] at h1; subst h1; cases hne
  · have hi' := hi
    rw [hrd] at hi
    have hl := List.all_eq_true.1 hlt i hi
    rw [Bool.and_eq_true, Nat.blt_eq, Nat.blt_eq] at hl
    have h0 : l[i]? = some l[i] := List.getElem?_eq_getElem hl.2
    have h2 := h i hi
    rw [show opsAt l [i] = [l[i]] by simp [opsAt, h0]] at h2
    have h3 := wO_run h2 hs
    have hw : wpOp P l.toArray (fun e a' w' => e = .normal ∧ ∃ f', Sm n a' f' ∧ J w' ∧ wDJ P n l N J Qf fuel (listed.setIfInBounds i true) f' w') i (wpList P l.toArray (fun e a' w' => e = .normal ∧ ∃ f', Sm n a' f' ∧ J w' ∧ wDJ P n l N J Qf fuel (listed.setIfInBounds i true) f' w') []) a w := by
      unfold wpOp
      simp only [List.getElem?_toArray, h0]
      exact h3
    refine wpJ_of_seq.wpOp_mono' (fun a' w' h' => ?_) (fun e a w he h' => absurd h'.1 he) hw
    obtain ⟨_, f', hf', hJ', h4⟩ := h'
    exact ⟨fun _ => hJ', h4 (inv.set hi' hl.1) hJ' a' hf'⟩
theorem wC_draw {QC : Exit → Fr → World → Prop} {id : Nat} (J : World → Prop) (N : Nat) (hm : P.follows .mixedOrders = true) (hB : drB l N = true) (hJ : J w.drew)
    (h : DrB l N → wDJ P n l N J (fun f' w' => QC .normal f' w') l.length (Array.replicate l.length false) f w.drew) : wC P n (.region id l.toArray true) QC f w := by
  unfold wC
  intro a ha
  have hD := drB_of hB
  refine wp_mono (Q := fun e a' w' => e = .normal ∧ ∃ f', Sm n a' f' ∧ QC .normal f' w') ?_ (by rintro e a' w' ⟨rfl, h⟩; exact h)
  refine wp_region_any hm (wpAny_of_J (J := J) (n := N) _ _ _ _ ?_)
  have inv0 : HeadInv .any l.toArray N (Array.replicate l.toArray.size false) :=
    ⟨by simp, fun j oj _ hl => (by rw [getD_replicate_false] at hl; cases hl), fun t _ ht => getD_in (by simpa using ht) (getD_replicate_false _ _)⟩
  exact h hD inv0 hJ a ha
end
section
variable {P : Program} {n : Nat} {w0 : World} {f0 : FP} {ops : Array Oper} {rest : List Oper} {QC : Exit → Fr → World → Prop} {f : Fr} {L L0 : List HP}
/-- On pieces: L0 is what is read of, and kept all the while. -/
def sD (P : Program) (n : Nat) (w0 : World) (f0 : FP) (l : List Oper) (N : Nat) (L0 : List HP) (QC : Exit → Fr → World → Prop) (fuel : Nat) (listed : Array Bool) (f : Fr) (L : List HP) : Prop := ∀ w, St w0 f0 L w → wDJ P n l N (fun w' => St w0 f0 L0 w') (fun f' w' => QC .normal f' w') fuel listed f w
def sdS (P : Program) (n : Nat) (w0 : World) (f0 : FP) (l : List Oper) (N : Nat) (L0 : List HP) (QC : Exit → Fr → World → Prop) (fuel : Nat) (listed : Array Bool) : Exit → Fr → World → Prop := fun _ f' w' => St w0 f0 L0 w' ∧ wDJ P n l N (fun w' => St w0 f0 L0 w') (fun f' w' => QC .normal f' w') fuel listed f' w'
variable {l : List Oper} {N fuel : Nat} {listed li' : Array Bool}
theorem s_draw {id : Nat} (L0 : List HP) (N : Nat) (hm : P.follows .mixedOrders = true) (hB : drB l N = true) (hL0 : PSub w0 f0 L L0) (h : DrB l N → sD P n w0 f0 l N L0 QC l.length (Array.replicate l.length false) f L) : sC P n w0 f0 (.region id l.toArray true) QC f L :=
  fun w H => wC_draw (J := fun w' => St w0 f0 L0 w') N hm hB (hL0 _ (H.idle (Step.drew w _))) fun hD => h hD _ (H.idle (Step.drew w _))
theorem d_rd (li' : Array Bool) (rs : List Nat) (F : Fr) (hD : DrB l N) (hB : (dstsB n (opsAt l rs) && rdAt .any l.toArray N (fun li => decide (li = li')) rs listed) = true) (hread : sO P n w0 f0 l.toArray true (opsAt l rs) (QCF F) f L0) (h : sD P n w0 f0 l N L0 QC fuel li' F L) : sD P n w0 f0 l N L0 QC (rs.length + fuel) listed f L :=
  fun w H => wD_rd hD rs F hB (fun w' H' => hread w' H') (h w H)
theorem d_all (rs : List Nat) (hr : (decide (Region.ready .any l.toArray listed = rs) && !rs.isEmpty && rs.all fun i => Nat.blt i N && Nat.blt i l.length) = true) (h : AllI (fun i => sO P n w0 f0 l.toArray false (opsAt l [i]) (sdS P n w0 f0 l N L0 QC fuel (listed.setIfInBounds i true)) f L) rs) : sD P n w0 f0 l N L0 QC (fuel + 1) listed f L :=
  fun w H => wD_all rs hr fun i hi => h.mem i hi w H
theorem d_end (hD : DrB l N) (hB : seqAt .any l.toArray ((List.range (l.length - N)).map (N + ·)) listed = true) (hf : fuel = l.length - N) (h : sO P n w0 f0 l.toArray false (l.drop N) QC f L) : sD P n w0 f0 l N L0 QC fuel listed f L := fun w H => wD_end hD hB hf (h w H)
theorem e_sd (h1 : PSub w0 f0 L L0) (h2 : sD P n w0 f0 l N L0 QC fuel listed f L) : sE w0 f0 (sdS P n w0 f0 l N L0 QC fuel listed) .normal f L := fun w H => ⟨h1 w H, h2 w H⟩
end
attribute [irreducible] sdS
section
variable {P : Program} {n : Nat} {w0 : World} {f0 : FP} {QC : Exit → Fr → World → Prop} {f : Fr} {L : List HP} {c1 c2 : Code} {σ : Type}
/-- As s_cut, behind a seq that is open. -/
theorem s_cutI (S : σ → List (Nat × Value)) (I : σ → List HP) (J : σ → Prop) (h1 : sC P n w0 f0 c1 (ctS w0 f0 QC S I J) f L)
    (h2 : ∀ f s, J s → sC P n w0 f0 c2 QC (ups f (S s)) (I s)) : sC P n w0 f0 c1 (sqS P n c2 QC) f L := by
  intro w H
  refine wC_mono (h1 w H) ?_
  intro e f1 w1 q
  unfold ctS at q
  unfold sqS
  cases e with
  | normal =>
    obtain ⟨s, q1, q2, q3⟩ := q
    have := h2 f1 s q2 w1 q3
    rw [ups_fits q1] at this
    exact this
  | _ => exact q
/-- .. whatever comes behind. -/
theorem s_cutE (S : σ → List (Nat × Value)) (I : σ → List HP) (J : σ → Prop) (h1 : sC P n w0 f0 c1 (ctS w0 f0 QC S I J) f L)
    (h2 : ∀ f s, J s → sE w0 f0 QC .normal (ups f (S s)) (I s)) : sC P n w0 f0 c1 QC f L := by
  intro w H
  refine wC_mono (h1 w H) ?_
  intro e f1 w1 q
  unfold ctS at q
  cases e with
  | normal =>
    obtain ⟨s, q1, q2, q3⟩ := q
    have := h2 f1 s q2 w1 q3
    rw [ups_fits q1] at this
    exact this
  | _ => exact q
end
/-! stars: many pieces in one -/
section
variable {w0 w : World} {f0 : FP} {L ps : List HP}
theorem PSub.unstar : PSub w0 f0 (star ps :: L) (ps ++ L) := fun w H => by
  obtain ⟨f, ⟨f1, f2, e1, e2, h1, h2⟩, hf⟩ := H.sf
  exact ⟨H.step, f, SF.app.2 ⟨f1, f2, e1, e2, h1, h2⟩, hf⟩
theorem PSub.mkstar : PSub w0 f0 (ps ++ L) (star ps :: L) := fun w H => by
  obtain ⟨f, h, hf⟩ := H.sf
  obtain ⟨f1, f2, e1, e2, h1, h2⟩ := SF.app.1 h
  exact ⟨H.step, f, ⟨f1, f2, e1, e2, h1, h2⟩, hf⟩
/-- One piece of a star, taken out; and laid back, turned. -/
theorem PSub.starOut {j : Nat} {R : HP} (hj : ps[j]? = some R) : PSub w0 f0 (star ps :: L) (R :: star (ps.eraseIdx j) :: L) := fun w H => (H.pull 0 rfl j hj).head
theorem PSub.starIn {j : Nat} {R : HP} (hj : j < ps.length) : PSub w0 f0 (R :: star (ps.eraseIdx j) :: L) (star (ps.set j R) :: L) := fun w H => H.last.push 0 j rfl hj
theorem PSub.starNil : PSub w0 f0 L (star [] :: L) := fun w H => H.star0.head
theorem PSub.starNew {R : HP} : PSub w0 f0 (R :: star ps :: L) (star (ps ++ [R]) :: L) := fun w H => H.last.more 0 rfl
/-- What lies in a star lies somewhere. -/
theorem star_at {g : FP} {X : HP} (h : (star ps).sat w g) {i : Nat} (hi : ps[i]? = some X) : ∃ g1, X.sat w g1 ∧ ∀ b, g1 b → g b := by
  have h : SF ps w g := h
  obtain ⟨g1, g2, e1, _, e3, _⟩ := h.focus i hi
  exact ⟨g1, e3, fun b hb => (e1 b).2 (.inl hb)⟩
theorem star_mem {α : Type} {F : α → HP} {g : FP} {xs : List α} (h : (star (xs.map F)).sat w g) {x : α} (hx : x ∈ xs) : ∃ g1, (F x).sat w g1 ∧ ∀ b, g1 b → g b := by
  obtain ⟨i, hi, rfl⟩ := List.getElem_of_mem hx
  exact star_at h (by rw [List.getElem?_map, List.getElem?_eq_getElem hi]; rfl)
variable {α : Type} [I : Enc α]
theorem own_rd {ok : FP} {g : FP} {e : TypeId} {s : Sl α} [D : Dp α] (h : (own e s.A s.xs.length s.c s.xs).sat w g) (hok : ∀ b, g b → ok b) (hd : ∀ x ∈ s.xs, D.rd ok w x) : RdD ok w s :=
  ⟨⟨row.rd (show (row s.A s.xs.length s.c e I.sz (s.xs.flatMap I.enc)).sat w g from h) hok, hd⟩⟩
end
section
variable {w0 : World} {f0 : FP} {L : List HP} {a b c : HP}
theorem PSub.mk2 : PSub w0 f0 (a :: b :: L) (star [a, b] :: L) := PSub.mkstar (ps := [a, b])
theorem PSub.mk3 : PSub w0 f0 (a :: b :: c :: L) (star [a, b, c] :: L) := PSub.mkstar (ps := [a, b, c])
end
theorem take_set {α : Type} {l : List α} {j : Nat} {u : α} (h : j < l.length) : (l.set j u).take (j + 1) = l.take j ++ [u] := by
  apply List.ext_getElem?
  intro q
  rw [List.getElem?_take]
  split
  · rename_i hq
    by_cases e : q = j
    · subst e; rw [List.getElem?_set_self h, List.getElem?_append_right (by rw [List.length_take]; omega), show q - (l.take q).length = 0 by rw [List.length_take]; omega]; rfl
    · rw [List.getElem?_set_ne (Ne.symm e), List.getElem?_append_left (by rw [List.length_take]; omega), List.getElem?_take_of_lt (by omega)]
  · rename_i hq
    rw [List.getElem?_eq_none (by rw [List.length_append, List.length_take, List.length_singleton]; omega)]
theorem nth_set_ge {α : Type} [Enc α] {l : List α} {j m : Nat} {u : α} (h : j + 1 ≤ m) : nth (l.set j u) m = nth l m := by
  unfold nth; rw [List.getD_eq_getElem?_getD, List.getD_eq_getElem?_getD, List.getElem?_set_ne (by omega)]
theorem map_set_same {α β : Type} {e : α → β} {l l0 : List α} {j : Nat} {u : α} [Enc α] (h : l.map e = l0.map e) (hj : j < l.length) (hu : e u = e (nth l0 j)) : (l.set j u).map e = l0.map e := by
  rw [List.map_set, h, hu]
  have hl : l.length = l0.length := by have := congrArg List.length h; simpa using this
  apply List.ext_getElem?
  intro q
  by_cases e2 : q = j
  · subst e2
    rw [List.getElem?_set_self (by rw [List.length_map]; omega), List.getElem?_map, nth_some (by omega)]; rfl
  · rw [List.getElem?_set_ne (Ne.symm e2)]
section
variable {w0 : World} {f0 : FP} {L l : List HP} {a b : HP}
theorem PSub.starCons : PSub w0 f0 (star (a :: l) :: L) (a :: star l :: L) := PSub.starOut (ps := a :: l) (j := 0) rfl
theorem PSub.starConsI : PSub w0 f0 (a :: star l :: L) (star (a :: l) :: L) := fun w H => by
  obtain ⟨g, ⟨f1, f2, e1, e2, h1, h2⟩, hb⟩ := H.sf
  obtain ⟨f3, f4, e3, e4, h3, h4⟩ := h2
  refine ⟨H.step, g, ⟨fun b => f1 b ∨ f3 b, f4, fun b => ?_, fun b hb hb4 => ?_, ⟨f1, f3, fun b => Iff.rfl, fun b hb1 hb3 => e2 b hb1 ((e3 b).2 (.inl hb3)), h1, h3⟩, h4⟩, hb⟩
  · rw [e1 b, e3 b, or_assoc]
  · rcases hb with hb | hb
    · exact e2 b hb ((e3 b).2 (.inr hb4))
    · exact e4 b hb hb4
theorem PSub.un2 : PSub w0 f0 (star [a, b] :: L) (a :: b :: L) := PSub.unstar (ps := [a, b])
theorem PSub.un3 {c : HP} : PSub w0 f0 (star [a, b, c] :: L) (a :: b :: c :: L) := PSub.unstar (ps := [a, b, c])
theorem PSub.starDrop {α : Type} [Enc α] {F : α → HP} {xs : List α} {k : Nat} (h : k < xs.length) : PSub w0 f0 (star ((xs.drop k).map F) :: L) (F (nth xs k) :: star ((xs.drop (k + 1)).map F) :: L) := by
  rw [List.drop_eq_getElem_cons h, List.map_cons, ← nth_get h]
  exact PSub.starCons
end
section
variable {P : Program} {n : Nat} {w0 : World} {f0 : FP} {ops : Array Oper} {m : Bool} {rest : List Oper} {QC : Exit → Fr → World → Prop} {f : Fr} {L : List HP} {x : Operand}
variable {d : Tmp} {ty t : TypeId} {pos : String} {after : Array Edge} {α : Type} {I : Enc α} {sz : Nat}
/-- A field of a field of an element that is only read. -/
theorem s_ldSF2 [hT : C1 P t] [Dp α] {s : Sl α} {j o1 o2 : Nat} (hx : ev f x = pt s.A (j * sz + o1 + o2)) [h : RdD (okOf w0 f0) w0 s] (hz : I.sz = sz) (h1 : j < s.xs.length) {v : Value} (hv : (I.enc (nth s.xs j))[o1 + o2]? = some v)
    (hn : sO P n w0 f0 ops m rest QC (up f d v) L) (hd : Nat.blt d n = true := by rfl) : sO P n w0 f0 ops m (⟨some d, .load t x, ty, pos, after, none⟩ :: rest) QC f L :=
  s_ldSF (o := o1 + o2) (by rw [← Nat.add_assoc]; exact hx) hz h1 hv hn hd
end
theorem PSub.thaw {P : Program} {e kt : TypeId} {α : Type} {E : EK P e α} {w0 : World} {f0 : FP} {L : List HP} {b N clock : Nat} {F : Int → Option α} {es : Array MapEntry} : PSub w0 f0 (mpz E kt b N F es clock :: L) (mp E kt b N F :: L) := fun w H => H.thaw 0 rfl
theorem var_congr {α : Type} [I : Enc α] {e : TypeId} {b : Nat} {u u' : α} (h : I.enc u = I.enc u') : var e b u = var e b u' := by unfold var; rw [h]
theorem own_congr {α : Type} [I : Enc α] {e : TypeId} {A : Option Addr} {l c : Nat} {u u' : List α} (h : u.flatMap I.enc = u'.flatMap I.enc) : own e A l c u = own e A l c u' := by unfold own; rw [h]
theorem enc_app {α : Type} [Enc α] {A : Option Addr} {c : Nat} {xs : List α} {a : α} : ([Value.slice A (xs.length + 1) c] : List Value) = Enc.enc (⟨A, c, xs ++ [a]⟩ : Sl α) := by
  show _ = [Value.slice A (xs ++ [a]).length c]
  rw [List.length_append]; rfl
end Go.Proofs.Ytfplmdjlgjgbgaa
