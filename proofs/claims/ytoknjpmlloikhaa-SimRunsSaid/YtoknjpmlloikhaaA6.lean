/- Arguments opened: what may be read as data is a typed value, readable at depth. -/
import Derived.Test.YtoknjpmlloikhaaA1
import Derived.OpenShut
import Derived.Test.YtoknjpmlloikhaaKo
import Derived.Deep.Slices
namespace Go.Proofs.Ytoknjpmlloikhaa
set_option linter.unusedVariables false
set_option linter.unusedSimpArgs false
open Go Go.RowKit Go.ChangeShapes Go.WideShapes Go.Deep

class Opn (P : Program) (e : TypeId) (α : outParam Type) (I : outParam (Enc α)) (D : outParam (@Dp α I)) : Prop where
  opn : ∀ {H : Type} {enc : TypeId × Value → H} {W : World} {fuel : Nat} {cs : List Value} {x : DataW H × List MemPlace}, DataW.trod enc P W 0 (fun _ => true) true fuel e cs = some x → ∃ u : α, cs = I.enc u ∧ D.rd (okOf W fun _ => False) W u

section
variable {P : Program} {t e : TypeId}
theorem opn_int (ht : P.underlying t = some (.int .i64)) : Opn P t Int (by infer_instance) (by infer_instance) := ⟨fun h => by
  obtain ⟨x, h1, _, hw⟩ := DataW.trod_int ht h
  exact ⟨x, h1, wfi_iff.2 hw⟩⟩
theorem opn_iof {k : IntKind} (ht : P.underlying t = some (.int k)) : Opn P t (Iof k) (by infer_instance) (by infer_instance) := ⟨fun h => by
  obtain ⟨x, h1, _, hw⟩ := DataW.trod_int ht h
  exact ⟨⟨x⟩, h1, hw⟩⟩
theorem opn_bool (ht : P.underlying t = some .bool) : Opn P t Bool (by infer_instance) (by infer_instance) := ⟨fun h => by
  obtain ⟨x, h1, _⟩ := DataW.trod_bool ht h
  exact ⟨x, h1, trivial⟩⟩
theorem opn_str (ht : P.underlying t = some .string) : Opn P t Str (by infer_instance) (by infer_instance) := ⟨fun h => by
  obtain ⟨x, h1, _⟩ := DataW.trod_string ht h
  exact ⟨⟨x⟩, h1, trivial⟩⟩
theorem opn_slice {α : Type} {I : Enc α} {D : Dp α} (ht : P.underlying t = some (.slice e)) (hE : Opn P e α I D) (hc : P.cellsOf e = I.sz) : Opn P t (Sl α) (by infer_instance) (by infer_instance) := ⟨fun {H enc W fuel cs x} h => by
  rcases open_slice ht h with ⟨hcs, _⟩ | ⟨a, len, c, m, n, DD, Pl, hcs, _, hl, hm, hmm, _, hi⟩
  · exact ⟨⟨none, 0, []⟩, hcs, Dp.dflt _ _⟩
  · simp only [if_true] at hmm
    subst hmm
    have each : ∀ i, i < len → ∃ u : α, D.rd (okOf W fun _ => False) W u ∧ W.cells? 0 (a.add (i * I.sz)) I.sz = some (I.enc u) := fun i hil => by
      obtain ⟨cs', hc', ht'⟩ := hi i (by omega)
      rw [hc] at hc'
      obtain ⟨u, rfl, hu⟩ := hE.opn ht'
      exact ⟨u, hu, hc'⟩
    obtain ⟨us, hul, hus⟩ := list_of len each
    refine ⟨⟨some a, m, us⟩, by rw [hcs, ← hul]; rfl, ⟨?_, fun u hu => ?_⟩⟩
    · refine ⟨flat_len fun u _ => I.len u, by show us.length ≤ m; omega, hm, ?_⟩
      by_cases h0 : len = 0
      · exact .inl (by show us.length = 0; omega)
      · have cell : ∀ (j : Nat) v, (us.flatMap I.enc)[j]? = some v → W.cell? (a.add j) = some v := fun j v hj => by
          have hp := I.pos
          have hjl := (List.getElem?_eq_some_iff.1 hj).1
          rw [flat_len fun u _ => I.len u] at hjl
          have hq : j / I.sz < us.length := Nat.div_lt_of_lt_mul (by rw [Nat.mul_comm]; exact hjl)
          have hr : j % I.sz < I.sz := Nat.mod_lt _ hp
          have ej : j / I.sz * I.sz + j % I.sz = j := by rw [Nat.mul_comm]; exact Nat.div_add_mod j I.sz
          rw [← ej, flat_get (fun u _ => I.len u) (List.getElem?_eq_getElem hq) hr] at hj
          obtain ⟨_, hcell⟩ := hus _ _ (List.getElem?_eq_getElem hq)
          obtain ⟨_, hcl, hat⟩ := World.cells?_some hcell
          have := hat (j % I.sz) hr
          rw [add_add', ej] at this
          rw [this]
          exact hj
        refine .inr ⟨a, rfl, ⟨?_, id⟩, cell⟩
        have hlen : 0 < (us.flatMap I.enc).length := by rw [flat_len fun u _ => I.len u, hul]; exact Nat.mul_pos (by omega) I.pos
        have := cell_lt (cell 0 _ (List.getElem?_eq_getElem hlen))
        rwa [add_block] at this
    · obtain ⟨i, hi'⟩ := List.getElem?_of_mem hu
      exact (hus i u hi').1⟩
theorem cut_drop (cs : List Value) (o k : Nat) : cs.drop o = (cs.drop o).take k ++ cs.drop (o + k) := by
  rw [← List.drop_drop, List.take_append_drop]

/-- An argument, by its type. -/
theorem open_sl {α : Type} {I : Enc α} {D : Dp α} {H : Type} {enc : TypeId × Value → H} {W : World} {A : Option Addr} {len cap : Nat} {d : DataW H} {p : List MemPlace} [hO : Opn P t (Sl α) (by infer_instance) (by infer_instance)] (h : DataW.Trod enc P W 0 (fun _ => true) true t (.slice A len cap) d p) :
    ∃ s : Sl α, A = s.A ∧ len = s.xs.length ∧ cap = s.c ∧ RdD (okOf W fun _ => False) W s := by
  obtain ⟨fuel, hf⟩ := h
  obtain ⟨s, h1, h2⟩ := hO.opn hf
  simp [Value.cells, Enc.enc] at h1
  exact ⟨s, h1.1, h1.2.1, h1.2.2, ⟨h2⟩⟩
theorem open_agg {α : Type} {I : Enc α} {D : Dp α} {H : Type} {enc : TypeId × Value → H} {W : World} {cs : Array Value} {d : DataW H} {p : List MemPlace} [hO : Opn P t α I D] (h : DataW.Trod enc P W 0 (fun _ => true) true t (.agg cs) d p) :
    ∃ s : α, cs = (I.enc s).toArray ∧ RdD (okOf W fun _ => False) W s := by
  obtain ⟨fuel, hf⟩ := h
  obtain ⟨s, h1, h2⟩ := hO.opn hf
  exact ⟨s, by rw [← h1]; rfl, ⟨h2⟩⟩
/-- A walk's contract as a row wants it. -/
theorem Spec.run {g : FuncId} {vs : List Value} {Rd : FP → World → Prop} {v0 : Value} (h : Spec P g vs [] Rd fun v L' => v = v0 ∧ L' = []) (W : World) (hr : Rd (okOf W fun _ => False) W) : Calls P g vs.toArray W fun e w' => ∃ v, e = .returned v ∧ v = v0 ∧ Step W (fun _ => False) w' := by
  have := h W (fun _ => False) (fun _ h => h) hr
  refine Calls.mono this fun e w' ⟨v, e1, L', ⟨e2, e3⟩, hs⟩ => ⟨v, e1, e2, ?_⟩
  exact hs.step
end
section
open Go Go.RowKit

theorem and_mask (a : Int) (c : Nat) (hc : c < 2 ^ 63) : ∃ r : Nat, r ≤ c ∧ IntKind.i64.wrap ((BitVec.ofInt IntKind.i64.bits a &&& BitVec.ofInt IntKind.i64.bits (c : Int)).toNat : Int) = (r : Int) := by
  refine ⟨(BitVec.ofInt IntKind.i64.bits a &&& BitVec.ofInt IntKind.i64.bits (c : Int)).toNat, ?_, ?_⟩
  · rw [BitVec.toNat_and]
    refine Nat.le_trans Nat.and_le_right ?_
    have : (BitVec.ofInt IntKind.i64.bits (c : Int)).toNat = c := by
      rw [BitVec.ofInt_natCast, BitVec.toNat_ofNat]
      exact Nat.mod_eq_of_lt (Nat.lt_of_lt_of_le hc (by decide))
    omega
  · have h1 : (BitVec.ofInt IntKind.i64.bits a &&& BitVec.ofInt IntKind.i64.bits (c : Int)).toNat ≤ c := by
      rw [BitVec.toNat_and]
      refine Nat.le_trans Nat.and_le_right ?_
      have : (BitVec.ofInt IntKind.i64.bits (c : Int)).toNat = c := by
        rw [BitVec.ofInt_natCast, BitVec.toNat_ofNat]
        exact Nat.mod_eq_of_lt (Nat.lt_of_lt_of_le hc (by decide))
      omega
    exact i64_in _ (by omega)
section
variable {P : Program} {n : Nat} {w0 w : World} {f0 : FP} {ops : Array Oper} {m : Bool} {rest : List Oper} {QC : Exit → Fr → World → Prop} {f : Fr} {L : List HP} {x y : Operand} {d : Tmp} {ty t yt e e1 : TypeId} {pos : String} {after : Array Edge}
theorem s_andM {a : Int} {c : Nat} (hx : ev f x = .int .i64 a) (hy : ev f y = .int .i64 (c : Int)) (hc : c < 2 ^ 63) (hn : ∀ r : Nat, r ≤ c → sO P n w0 f0 ops m rest QC (up f d (.int .i64 (r : Int))) L) (hd : Nat.blt d n = true := by rfl) : sO P n w0 f0 ops m (⟨some d, .binOp .and t x y yt, ty, pos, after, none⟩ :: rest) QC f L := by
  obtain ⟨r, hr, he⟩ := and_mask a c hc
  refine s_and hx hy ?_ hd
  rw [he]; exact hn r hr
variable {α : Type} [I : Enc α]
theorem PSub.join {A : Option Addr} {l c : Nat} {xs : List α} {ss : List (Sl α)} (hl : xs.length = l) : PSub w0 f0 (rws e ss :: own e A l c xs :: L) (rws e (ss ++ [⟨A, c, xs⟩]) :: L) := by
  intro w H
  subst hl
  have h1 : St w0 f0 ([own e A xs.length c xs] ++ (L ++ [rws e ss])) w := by
    have h2 : St w0 f0 ([rws e ss] ++ (own e A xs.length c xs :: L)) w := H
    have := h2.rot
    exact this
  have h2 : St w0 f0 ((L ++ [rws e ss]) ++ [own e A xs.length c xs]) w := h1.rot
  have h3 := h2.more L.length (Ls := ss.map fun s => own e s.A s.xs.length s.c s.xs) (by rw [List.getElem?_append_right (Nat.le_refl _), Nat.sub_self]; rfl)
  rw [List.set_append_right _ _ (Nat.le_refl _), Nat.sub_self] at h3
  have h4 : St w0 f0 (L ++ [rws e (ss ++ [⟨A, c, xs⟩])]) w := by
    have e2 : star ((ss.map fun s => own e s.A s.xs.length s.c s.xs) ++ [own e A xs.length c xs]) = rws e (ss ++ [⟨A, c, xs⟩]) := by unfold rws; rw [List.map_append]; rfl
    rw [← e2]; exact h3
  exact h4.head
theorem PSub.joinNil {ss : List (Sl α)} : PSub w0 f0 (rws e ss :: L) (rws e (ss ++ [⟨none, 0, []⟩]) :: L) := by
  intro w H
  have h := H.addNil e I.sz
  have h2 : St w0 f0 (rws e ss :: own e none 0 0 ([] : List α) :: L) w := by
    have h3 : St w0 f0 ((rws e ss :: L) ++ [own e none 0 0 ([] : List α)]) w := h
    have h4 : St w0 f0 ([own e none 0 0 ([] : List α)] ++ (rws e ss :: L)) w := h3.rot
    have := h4.pick [1, 0]
    exact this
  exact PSub.join rfl w h2
theorem PSub.nilOwn (e : TypeId) : PSub w0 f0 L (own e none 0 0 ([] : List α) :: L) := fun w H => (H.addNil e I.sz).head
theorem PSub.eq {L L2 : List HP} (h : L = L2) : PSub w0 f0 L L2 := fun w H => h ▸ H
theorem PSub.nilRws (e : TypeId) : PSub w0 f0 L (rws e ([] : List (Sl α)) :: L) := fun w H => H.star0.head
theorem St.rdRows [D : Dp α] {A : Option Addr} {l c : Nat} {ss : List (Sl α)} {put : HP → List HP} (H : St w0 f0 L w) (i : Nat) (hi : L[i]? = some (rws e ss)) [h : Pc L A (own e1 A l c ss) put] (hd : ∀ s ∈ ss, ∀ x ∈ s.xs, D.rd (okOf w fun _ => False) w x) : ss.length = l ∧ RdD (okOf w fun _ => False) w (⟨A, c, ss⟩ : Sl (Sl α)) := by
  obtain ⟨h1, h2⟩ := H.rdO (A := A)
  refine ⟨h1, ⟨h2, fun s hs => ⟨?_, hd s hs⟩⟩⟩
  obtain ⟨j, hj⟩ := List.getElem?_of_mem hs
  exact H.rdStar i hi j (e := e) (by rw [List.getElem?_map, hj]; rfl)
end
end
section
open Go Go.RowKit

section
variable {P : Program} {ops : Array Oper} {md : Region.Mode}
structure Clo (fl : List Nat) (md : Region.Mode) (ops : Array Oper) (listed : Array Bool) : Prop where
  size : listed.size = ops.size
  gone : ∀ k ∈ fl, listed.getD k false = true
  closed : ∀ j oj, ops[j]? = some oj → listed.getD j false = true → ∀ e ∈ oj.after, Region.binds md e = true → listed.getD e.on false = true
theorem Clo.set {fl : List Nat} {i : Nat} {listed : Array Bool} (inv : Clo fl md ops listed) (hi : i ∈ Region.ready md ops listed) : Clo fl md ops (listed.setIfInBounds i true) := by
  obtain ⟨_, oi, hoi, hall⟩ := mem_ready.1 hi
  refine ⟨by simp [inv.size], fun k hk => getD_set_true (inv.gone k hk), fun j oj hj hl e he hb => ?_⟩
  by_cases hij : i = j
  · subst hij
    have : oj = oi := Option.some.inj (hj.symm.trans hoi)
    subst this
    exact getD_set_true (hall e he hb)
  · rw [getD_set_ne false hij] at hl
    exact getD_set_true (inv.closed j oj hj hl e he hb)
theorem any_mem {α : Type} {xs : Array α} {p : α → Bool} (h : xs.any p = true) : ∃ e, e ∈ xs ∧ p e = true := by
  rw [← Array.any_toList, List.any_eq_true] at h
  obtain ⟨e, h1, h2⟩ := h
  exact ⟨e, by simpa using h1, h2⟩
def wpH (P : Program) (md : Region.Mode) (ops : Array Oper) (J : World → Prop) (hd : Nat → Bool) (Q : Exit → Act → World → Prop) : Nat → Array Bool → Act → World → Prop
  | 0, listed, a, w => Region.ready md ops listed = [] ∧ Q .normal a w
  | fuel + 1, listed, a, w =>
    (Region.ready md ops listed = [] → Q .normal a w) ∧
    ∀ i ∈ Region.ready md ops listed, wpOp P ops Q i (fun a' w' => (hd i = true → J w') ∧ wpH P md ops J hd Q fuel (listed.setIfInBounds i true) a' w') a w
theorem wpAny_of_H {J : World → Prop} {hd : Nat → Bool} {Q : Exit → Act → World → Prop} : ∀ (fuel : Nat) (listed : Array Bool) (a : Act) (w : World), wpH P md ops J hd Q fuel listed a w → wpAny P md ops Q fuel listed a w
  | 0, _, _, _, h => h
  | fuel + 1, listed, a, w, h => ⟨h.1, fun i hi => wpOp_mono (fun a' w' h' => wpAny_of_H fuel _ a' w' h'.2) (h.2 i hi)⟩
/-- s must wait for i. -/
def preB (md : Region.Mode) (ops : Array Oper) (i : Nat) : Nat → Nat → Bool
  | 0, _ => false
  | f + 1, s => match ops[s]? with
    | some o => o.after.any fun e => Region.binds md e && (Nat.beq e.on i || preB md ops i f e.on)
    | none => false
theorem pre_listed {fl : List Nat} {i : Nat} {listed : Array Bool} (inv : Clo fl md ops listed) : ∀ (f s : Nat), preB md ops i f s = true → listed.getD s false = true → listed.getD i false = true
  | 0, _, h, _ => by cases h
  | f + 1, s, h, hl => by
    unfold preB at h
    cases ho : ops[s]? with
    | none => rw [ho] at h; cases h
    | some o =>
      rw [ho] at h
      obtain ⟨e, he, h2⟩ := any_mem h
      rw [Bool.and_eq_true, Bool.or_eq_true] at h2
      have := inv.closed s o ho hl e he h2.1
      rcases h2.2 with h3 | h3
      · rw [← Nat.eq_of_beq_eq_true h3]; exact this
      · exact pre_listed inv f e.on h3 this
theorem pre_waits {fl : List Nat} {i : Nat} {listed : Array Bool} (inv : Clo fl md ops listed) (hun : listed.getD i true = false) {f s : Nat} (h : preB md ops i f s = true) : s ∉ Region.ready md ops listed := by
  intro hr
  obtain ⟨_, o, ho, hall⟩ := mem_ready.1 hr
  cases f with
  | zero => cases h
  | succ f =>
    unfold preB at h
    rw [ho] at h
    obtain ⟨e, he, h2⟩ := any_mem h
    rw [Bool.and_eq_true, Bool.or_eq_true] at h2
    have hl := hall e he h2.1
    have : listed.getD i false = true := by
      rcases h2.2 with h3 | h3
      · rw [← Nat.eq_of_beq_eq_true h3]; exact hl
      · exact pre_listed inv f e.on h3 hl
    rw [getD_both hun] at this
    cases this

/-- Moved to the front: a mere move, in whatever world. -/
theorem wpH_float {J : World → Prop} {hd : Nat → Bool} {i : Nat} {oi : Oper} {v : Value} {Q : Exit → Act → World → Prop} (hi : ops[i]? = some oi) (hsel : ∀ (j : Nat) (o : Oper) cs b, ops[j]? = some o → o.op ≠ .select cs b)
    (hh : hd i = false) (hQ : ∀ c a w, Q (.panic c) (a.put oi.dst v) w → Q (.panic c) a w) :
    ∀ (f : Nat) (listed : Array Bool) (a : Act) (w : World),
      (∀ j oj, ops[j]? = some oj → j ≠ i → listed.getD j true = false → (∀ e ∈ oj.after, Region.binds md e = true → e.on ≠ i) → oi.apart ops oj = true) →
      i ∈ Region.ready md ops listed → (∀ w, YieldsAt P ops w oi v a) →
      wpH P md ops J hd Q f (listed.setIfInBounds i true) (a.put oi.dst v) w → wpH P md ops J hd Q (f + 1) listed a w := by
  have hno : hd i = true → False := fun h => by rw [hh] at h; cases h
  intro f
  induction f with
  | zero =>
    intro listed a w _ hr hy H
    refine ⟨fun h => (by rw [h] at hr; cases hr), fun j hj => ?_⟩
    by_cases hji : j = i
    · subst hji; exact YieldsAt.wpOp' hi (hy w) ⟨fun h => (hno h).elim, H⟩
    · have := ready_mono hj hji
      rw [H.1] at this
      cases this
  | succ f ih =>
    intro listed a w hfree hr hy H
    have hun := (mem_ready.1 hr).1
    refine ⟨fun h => (by rw [h] at hr; cases hr), fun j hj => ?_⟩
    by_cases hji : j = i
    · subst hji; exact YieldsAt.wpOp' hi (hy w) ⟨fun h => (hno h).elim, H⟩
    · have h1 := H.2 j (ready_mono hj hji)
      obtain ⟨hjun, oj, hoj, hall⟩ := mem_ready.1 hj
      have hnot : ∀ e ∈ oj.after, Region.binds md e = true → e.on ≠ i := fun e he hb heq => by
        have h1 := hall e he hb
        rw [heq, getD_both hun] at h1
        cases h1
      have hap := hfree j oj hoj hji hjun hnot
      obtain ⟨_, _, h3⟩ := Oper.apart_spec hap
      have h2 := wpOp_put' hoj hap (fun cs b => hsel j oj cs b hoj) hQ (Y := fun a => ∀ w, YieldsAt P ops w oi v a)
        (fun a hy u w' => (hy w').of_same (execOp_put oi (fun cs b => hsel i oi cs b hi) a oj.dst u h3) (wanted_put oi a oj.dst u h3)) (fun a d hy w' => (hy w').of_same rfl rfl) hy h1
      have hfree' : ∀ k ok, ops[k]? = some ok → k ≠ i → (listed.setIfInBounds j true).getD k true = false →
          (∀ e ∈ ok.after, Region.binds md e = true → e.on ≠ i) → oi.apart ops ok = true := fun k ok hk hki hun hno => by
        refine hfree k ok hk hki ?_ hno
        by_cases hjk : j = k
        · subst hjk; exact hjun
        · rw [getD_set_ne true hjk] at hun; exact hun
      refine wpOp_mono (fun a' w' h3 => ⟨h3.2.1, ih (listed.setIfInBounds j true) a' w' hfree' (ready_mono hr (Ne.symm hji)) h3.1 ?_⟩) h2
      rw [Array.setIfInBounds_comm _ _ hji]
      exact h3.2.2
/-- .. a reader, while all that isn't a head waits for it. -/
theorem wpH_first {fl : List Nat} {J : World → Prop} {hd : Nat → Bool} {i : Nat} {oi : Oper} {v : Value} {Q : Exit → Act → World → Prop} (hi : ops[i]? = some oi) (hsel : ∀ (j : Nat) (o : Oper) cs b, ops[j]? = some o → o.op ≠ .select cs b)
    (hw : ∀ s, s < ops.size → hd s = false → ∀ listed, Clo fl md ops listed → listed.getD s true = false → listed.getD i true = false → s ∉ Region.ready md ops listed) (hQ : ∀ c a w, Q (.panic c) (a.put oi.dst v) w → Q (.panic c) a w) :
    ∀ (f : Nat) (listed : Array Bool) (a : Act) (w : World), Clo fl md ops listed →
      (∀ j oj, ops[j]? = some oj → j ≠ i → listed.getD j true = false → (∀ e ∈ oj.after, Region.binds md e = true → e.on ≠ i) → oi.apart ops oj = true) →
      i ∈ Region.ready md ops listed → YJ P ops J oi v a → J w →
      wpH P md ops J hd Q f (listed.setIfInBounds i true) (a.put oi.dst v) w → wpH P md ops J hd Q (f + 1) listed a w := by
  intro f
  induction f with
  | zero =>
    intro listed a w inv _ hr hy hJ H
    refine ⟨fun h => (by rw [h] at hr; cases hr), fun j hj => ?_⟩
    by_cases hji : j = i
    · subst hji; exact YieldsAt.wpOp' hi (hy w hJ) ⟨fun _ => hJ, H⟩
    · have := ready_mono hj hji
      rw [H.1] at this
      cases this
  | succ f ih =>
    intro listed a w inv hfree hr hy hJ H
    have hun := (mem_ready.1 hr).1
    refine ⟨fun h => (by rw [h] at hr; cases hr), fun j hj => ?_⟩
    by_cases hji : j = i
    · subst hji; exact YieldsAt.wpOp' hi (hy w hJ) ⟨fun _ => hJ, H⟩
    · have h1 := H.2 j (ready_mono hj hji)
      obtain ⟨hjun, oj, hoj, hall⟩ := mem_ready.1 hj
      have hjs : j < ops.size := (Array.getElem?_eq_some_iff.1 hoj).1
      have hjh : hd j = true := by
        cases h : hd j with
        | true => rfl
        | false => exact absurd hj (hw j hjs h listed inv hjun hun)
      have hnot : ∀ e ∈ oj.after, Region.binds md e = true → e.on ≠ i := fun e he hb heq => by
        have h1 := hall e he hb
        rw [heq, getD_both hun] at h1
        cases h1
      have hap := hfree j oj hoj hji hjun hnot
      obtain ⟨_, _, h3⟩ := Oper.apart_spec hap
      have h2 := wpOp_put' hoj hap (fun cs b => hsel j oj cs b hoj) hQ
        (fun a hy u w' hw' => (hy w' hw').of_same (execOp_put oi (fun cs b => hsel i oi cs b hi) a oj.dst u h3) (wanted_put oi a oj.dst u h3)) (fun a d hy w' hw' => (hy w' hw').of_same rfl rfl) hy h1
      have hfree' : ∀ k ok, ops[k]? = some ok → k ≠ i → (listed.setIfInBounds j true).getD k true = false →
          (∀ e ∈ ok.after, Region.binds md e = true → e.on ≠ i) → oi.apart ops ok = true := fun k ok hk hki hun hno => by
        refine hfree k ok hk hki ?_ hno
        by_cases hjk : j = k
        · subst hjk; exact hjun
        · rw [getD_set_ne true hjk] at hun; exact hun
      refine wpOp_mono (fun a' w' h3 => ⟨h3.2.1, ih (listed.setIfInBounds j true) a' w' (inv.set hj) hfree' (ready_mono hr (Ne.symm hji)) h3.1 (h3.2.1 hjh) ?_⟩) h2
      rw [Array.setIfInBounds_comm _ _ hji]
      exact h3.2.2
end

section
variable {P : Program} {n : Nat} {md : Region.Mode} {l : List Oper}
/-- the float moves (fl) are listed already where a reader stands -/
def floatB (md : Region.Mode) (ops : Array Oper) (N : Nat) (rest : Array Bool → Bool) : List Nat → Array Bool → Bool
  | [], listed => rest listed
  | k :: fl, listed => (Region.ready md ops listed).contains k && Region.free md ops listed k && floatB md ops N rest fl (listed.setIfInBounds k true)
def readsB (md : Region.Mode) (ops : Array Oper) (N : Nat) (ts : List Nat) : List Nat → Array Bool → Bool
  | [], listed => seqAt md ops ts listed
  | k :: rs, listed => (Region.ready md ops listed).contains k && Region.free md ops listed k && ((List.range ops.size).all fun s => Nat.blt s N || preB md ops k ops.size s) && readsB md ops N ts rs (listed.setIfInBounds k true)
def isMoveB (o : Oper) : Bool := match o.op with
  | .move _ => (match o.guard with | none => true | _ => false)
  | _ => false
def swapB (md : Region.Mode) (m : Nat) (l : List Oper) (N : Nat) (fl rs : List Nat) : Bool :=
  Region.noSelect l.toArray && Nat.blt N l.length && dstsB m (opsAt l fl) && dstsB m (opsAt l rs) && (fl.all fun k => Nat.blt k N) && (rs.all fun k => Nat.blt k N && !fl.contains k) && Nat.beq (fl.length + rs.length) N && ((List.range N).all fun k => fl.contains k || rs.contains k) &&
    floatB md l.toArray N (readsB md l.toArray N ((List.range (l.length - N)).map (N + ·)) rs) fl (Array.replicate l.toArray.size false)
theorem wpH_seqT {J : World → Prop} {hd : Nat → Bool} {Q : Exit → Act → World → Prop} {Qf : Fr → World → Prop} (hq : ∀ f a w, Sm n a f → Qf f w → Q .normal a w) (hp : ∀ e a w, e ≠ .normal → ¬ Q e a w) :
    ∀ (ts : List Nat) (listed : Array Bool) (a : Act) (w : World), (∀ k ∈ ts, hd k = false ∧ k < l.length) → seqAt md l.toArray ts listed = true →
      wpList P l.toArray (fun e a' w' => e = .normal ∧ ∃ f', Sm n a' f' ∧ Qf f' w') (opsAt l ts) a w → wpH P md l.toArray J hd Q ts.length listed a w
  | [], listed, a, w, _, hB, h => by
    refine ⟨by simpa [seqAt] using hB, ?_⟩
    obtain ⟨_, f', hf', q⟩ := h
    exact hq f' a w hf' q
  | k :: ts, listed, a, w, ht, hB, h => by
    simp only [seqAt, Bool.and_eq_true, decide_eq_true_eq] at hB
    simp only [List.length_cons]
    refine ⟨fun h1 => (by rw [hB.1] at h1; cases h1), fun i hi => ?_⟩
    rw [hB.1] at hi
    obtain rfl : i = k := by simpa using hi
    have hk := ht i (by simp)
    have h0 : l[i]? = some l[i] := List.getElem?_eq_getElem hk.2
    have e1 : opsAt l (i :: ts) = l[i] :: opsAt l ts := by simp [opsAt, h0]
    rw [e1] at h
    have hw : wpOp P l.toArray (fun e a' w' => e = .normal ∧ ∃ f', Sm n a' f' ∧ Qf f' w') i (wpList P l.toArray (fun e a' w' => e = .normal ∧ ∃ f', Sm n a' f' ∧ Qf f' w') (opsAt l ts)) a w := by
      unfold wpOp
      simp only [List.getElem?_toArray, h0]
      exact h
    exact wpJ_of_seq.wpOp_mono' (fun a' w' h' => ⟨fun h3 => (by rw [hk.1] at h3; cases h3), wpH_seqT hq hp ts (listed.setIfInBounds i true) a' w' (fun k hk => ht k (by simp [hk])) hB.2 h'⟩) (fun e a w he h' => absurd h'.1 he) hw

theorem wpH_reads {fl : List Nat} {J : World → Prop} {N M : Nat} {Q : Exit → Act → World → Prop} {F : Fr} {w : World} (hp : ∀ e a w, e ≠ .normal → ¬ Q e a w) (hsel : Region.noSelect l.toArray = true) (ts : List Nat) :
    ∀ (rs : List Nat) (listed : Array Bool) (a : Act), (∀ k ∈ rs, k < N ∧ k < l.length) → a.tmps.size = n → Clo fl md l.toArray listed → dstsB n (opsAt l rs) = true → readsB md l.toArray N ts rs listed = true → J w →
      (∀ w', J w' → wpStill P l.toArray w' (fun a' => Sm n a' F) (opsAt l rs) a) →
      (∀ a listed, Sm n a F → seqAt md l.toArray ts listed = true → wpH P md l.toArray J (fun i => Nat.blt i N && !fl.contains i) Q M listed a w) → wpH P md l.toArray J (fun i => Nat.blt i N && !fl.contains i) Q (rs.length + M) listed a w
  | [], listed, a, _, ha, inv, _, hB, hJ, h, hr => by
    rw [List.length_nil, Nat.zero_add]
    exact hr a listed (h w hJ) hB
  | k :: rs, listed, a, hk', ha, inv, hD, hB, hJ, h, hr => by
    simp only [readsB, Bool.and_eq_true] at hB
    obtain ⟨⟨⟨hr1, hf⟩, hpre⟩, hB'⟩ := hB
    obtain ⟨hkN, hk⟩ := hk' k (by simp)
    have h0 : l[k]? = some l[k] := List.getElem?_eq_getElem hk
    have h0' : l.toArray[k]? = some l[k] := by simp [h0]
    have e1 : opsAt l (k :: rs) = l[k] :: opsAt l rs := by simp [opsAt, h0]
    have hr' : k ∈ Region.ready md l.toArray listed := by simpa using hr1
    rw [e1] at hD
    simp only [dstsB, Bool.and_eq_true] at hD
    have hst : ∀ w', J w' → ∃ v, YieldsAt P l.toArray w' l[k] v a ∧ wpStill P l.toArray w' (fun a' => Sm n a' F) (opsAt l rs) (a.put l[k].dst v) := fun w' hw' => by
      have := h w' hw'
      rw [e1] at this
      refine yieldsAt_of_stOp h0' ?_
      unfold stOp
      simp only [h0']
      exact this
    have same : ∃ v, ∀ w', J w' → YieldsAt P l.toArray w' l[k] v a ∧ wpStill P l.toArray w' (fun a' => Sm n a' F) (opsAt l rs) (a.put l[k].dst v) := by
      cases hd : l[k].dst with
      | none => rw [hd] at hD; exact absurd hD.1 (by simp)
      | some d =>
        rw [hd] at hD
        simp only [Bool.and_eq_true] at hD
        obtain ⟨⟨hdn, hall⟩, _⟩ := hD
        have hdn : d < n := by rw [← Nat.blt_eq]; exact hdn
        refine ⟨F d, fun w' hw' => ?_⟩
        obtain ⟨v, hv, hv2⟩ := hst w' hw'
        have := still_keep hdn _ _ (fun o ho => by have := List.all_eq_true.1 hall o ho; simpa using this) hv2
        rw [hd] at this
        have e2 : (a.put (some d) v).tmps[d]? = some v := by
          show (a.tmps.setIfInBounds d v)[d]? = some v
          rw [Array.getElem?_setIfInBounds_self_of_lt (by rw [ha]; exact hdn)]
        rw [e2] at this
        cases this
        rw [← hd]
        exact ⟨hv, hv2⟩
    obtain ⟨v, hv⟩ := same
    rw [show (k :: rs).length + M = rs.length + M + 1 by simp; omega]
    refine wpH_first (fl := fl) h0' (Region.noSelect_spec hsel) (fun s hs hhd listed' inv' hsu hku => ?_) (fun c a w hq' => absurd hq' (hp _ _ _ (by simp))) _ listed a w inv (Region.free_spec h0' hf) hr' (fun w' hw' => (hv w' hw').1) hJ
      (wpH_reads hp hsel ts rs _ _ (fun q hq => hk' q (by simp [hq])) (by cases hd : l[k].dst <;> simp [Act.put, ha]) (inv.set hr') hD.2 hB' hJ (fun w' hw' => (hv w' hw').2) hr)
    by_cases hsf : s ∈ fl
    · have := inv'.gone s hsf
      rw [getD_both hsu] at this; cases this
    · have h1 := List.all_eq_true.1 hpre s (List.mem_range.2 hs)
      rw [Bool.or_eq_true] at h1
      rcases h1 with h1 | h1
      · have : (Nat.blt s N && !fl.contains s) = true := by rw [h1]; simpa using hsf
        rw [this] at hhd; cases hhd
      · exact pre_waits inv' hku h1
theorem wpH_floats {fl0 : List Nat} {J : World → Prop} {N M : Nat} {Q : Exit → Act → World → Prop} {F : Fr} {w : World} (hp : ∀ e a w, e ≠ .normal → ¬ Q e a w) (hsel : Region.noSelect l.toArray = true) (rest : Array Bool → Bool) :
    ∀ (fl : List Nat) (dn : List Nat) (listed : Array Bool) (a : Act), (∀ k ∈ fl, k ∈ fl0 ∧ k < l.length) → a.tmps.size = n → Clo dn md l.toArray listed → dstsB n (opsAt l fl) = true → floatB md l.toArray N rest fl listed = true →
      (∀ w', wpStill P l.toArray w' (fun a' => Sm n a' F) (opsAt l fl) a) →
      (∀ a listed, Sm n a F → Clo (dn ++ fl) md l.toArray listed → rest listed = true → wpH P md l.toArray J (fun i => Nat.blt i N && !fl0.contains i) Q M listed a w) → wpH P md l.toArray J (fun i => Nat.blt i N && !fl0.contains i) Q (fl.length + M) listed a w
  | [], dn, listed, a, _, ha, inv, _, hB, h, hr => by
    rw [List.length_nil, Nat.zero_add]
    exact hr a listed (h w) (by simpa using inv) hB
  | k :: fl, dn, listed, a, hk', ha, inv, hD, hB, h, hr => by
    simp only [floatB, Bool.and_eq_true] at hB
    obtain ⟨⟨hr1, hf⟩, hB'⟩ := hB
    obtain ⟨hkf, hk⟩ := hk' k (by simp)
    have h0 : l[k]? = some l[k] := List.getElem?_eq_getElem hk
    have h0' : l.toArray[k]? = some l[k] := by simp [h0]
    have e1 : opsAt l (k :: fl) = l[k] :: opsAt l fl := by simp [opsAt, h0]
    have hr' : k ∈ Region.ready md l.toArray listed := by simpa using hr1
    rw [e1] at hD
    simp only [dstsB, Bool.and_eq_true] at hD
    have hst : ∀ w', ∃ v, YieldsAt P l.toArray w' l[k] v a ∧ wpStill P l.toArray w' (fun a' => Sm n a' F) (opsAt l fl) (a.put l[k].dst v) := fun w' => by
      have := h w'
      rw [e1] at this
      refine yieldsAt_of_stOp h0' ?_
      unfold stOp
      simp only [h0']
      exact this
    have same : ∃ v, ∀ w', YieldsAt P l.toArray w' l[k] v a ∧ wpStill P l.toArray w' (fun a' => Sm n a' F) (opsAt l fl) (a.put l[k].dst v) := by
      cases hd : l[k].dst with
      | none => rw [hd] at hD; exact absurd hD.1 (by simp)
      | some d =>
        rw [hd] at hD
        simp only [Bool.and_eq_true] at hD
        obtain ⟨⟨hdn, hall⟩, _⟩ := hD
        have hdn : d < n := by rw [← Nat.blt_eq]; exact hdn
        refine ⟨F d, fun w' => ?_⟩
        obtain ⟨v, hv, hv2⟩ := hst w'
        have := still_keep hdn _ _ (fun o ho => by have := List.all_eq_true.1 hall o ho; simpa using this) hv2
        rw [hd] at this
        have e2 : (a.put (some d) v).tmps[d]? = some v := by
          show (a.tmps.setIfInBounds d v)[d]? = some v
          rw [Array.getElem?_setIfInBounds_self_of_lt (by rw [ha]; exact hdn)]
        rw [e2] at this
        cases this
        rw [← hd]
        exact ⟨hv, hv2⟩
    obtain ⟨v, hv⟩ := same
    rw [show (k :: fl).length + M = fl.length + M + 1 by simp; omega]
    have hkl : k < listed.size := by rw [inv.size]; simpa using hk
    have inv2 : Clo (dn ++ [k]) md l.toArray (listed.setIfInBounds k true) := by
      have i1 := inv.set hr'
      refine ⟨i1.size, fun q hq => ?_, i1.closed⟩
      rcases List.mem_append.1 hq with hq | hq
      · exact i1.gone q hq
      · have : q = k := by simpa using hq
        subst this; simp [hkl]
    refine wpH_float h0' (Region.noSelect_spec hsel) (by simp [hkf]) (fun c a w hq' => absurd hq' (hp _ _ _ (by simp))) _ listed a w (Region.free_spec h0' hf) hr' (fun w' => (hv w').1)
      (wpH_floats hp hsel rest fl (dn ++ [k]) _ _ (fun q hq => hk' q (by simp [hq])) (by cases hd : l[k].dst <;> simp [Act.put, ha]) inv2 hD.2 hB' (fun w' => (hv w').2) (fun a listed hs hc hr2 => hr a listed hs (by simpa using hc) hr2))
end
section
variable {P : Program} {n : Nat} {w0 w : World} {f0 : FP} {ops : Array Oper} {QC : Exit → Fr → World → Prop} {f : Fr} {L : List HP}
theorem wC_swap {QC : Exit → Fr → World → Prop} {id : Nat} {l : List Oper} (J : World → Prop) (N : Nat) (fl rs : List Nat) (F1 F : Fr) (hm : P.follows .mixedOrders = true) (hB : swapB .any n l N fl rs = true) (hJ : J w.drew)
    (hfl : ∀ w', wO P l.toArray n true (opsAt l fl) (fun f' _ => f' = F1) f w') (hread : ∀ w', J w' → wO P l.toArray n true (opsAt l rs) (fun f' _ => f' = F) F1 w')
    (hrest : wO P l.toArray n false (l.drop N) (fun f'' w'' => QC .normal f'' w'') F w.drew) : wC P n (.region id l.toArray true) QC f w := by
  unfold wC
  intro a ha
  simp only [swapB, Bool.and_eq_true] at hB
  obtain ⟨⟨⟨⟨⟨⟨⟨⟨hsel, hn⟩, hD1⟩, hD2⟩, hfN⟩, hrN⟩, hlen⟩, hcov⟩, hB⟩ := hB
  have hn : N < l.length := by rw [← Nat.blt_eq]; exact hn
  have hlen := Nat.eq_of_beq_eq_true hlen
  have hfN' : ∀ k ∈ fl, k < N := fun k hk => by have := List.all_eq_true.1 hfN k hk; rw [Nat.blt_eq] at this; exact this
  have hrN' : ∀ k ∈ rs, k < N := fun k hk => by have := List.all_eq_true.1 hrN k hk; rw [Bool.and_eq_true, Nat.blt_eq] at this; exact this.1
  refine wp_mono (Q := fun e a' w' => e = .normal ∧ ∃ f', Sm n a' f' ∧ QC .normal f' w') ?_ (by rintro e a' w' ⟨rfl, h⟩; exact h)
  refine wp_region_any hm (wpAny_of_H (J := J) (hd := fun i => Nat.blt i N && !fl.contains i) _ _ _ _ ?_)
  have inv0 : Clo [] .any l.toArray (Array.replicate l.toArray.size false) :=
    ⟨by simp, fun k hk => (by cases hk), fun j oj _ hl => (by rw [getD_replicate_false] at hl; cases hl)⟩
  have hpan : ∀ (e : Exit) (a : Act) (w : World), e ≠ .normal → ¬ (e = .normal ∧ ∃ f', Sm n a f' ∧ QC .normal f' w) := fun e a w he h => he h.1
  have key := wpH_floats (P := P) (n := n) (md := .any) (l := l) (w := w.drew) (F := F1) (J := J) (N := N) (M := rs.length + (l.length - N)) (fl0 := fl) (Q := fun e a' w' => e = .normal ∧ ∃ f', Sm n a' f' ∧ QC .normal f' w') hpan hsel _ fl [] _ a
    (fun k hk => ⟨hk, by have := hfN' k hk; omega⟩) ha.size inv0 hD1 hB (fun w' => wC_mix.stillMono (fun a' h => by obtain ⟨f', h1, rfl⟩ := h; exact h1) (wO_still (hfl w') ha))
    (fun a listed hs hclo hr => by
      have hclo : Clo fl .any l.toArray listed := by simpa using hclo
      refine wpH_reads (P := P) (n := n) (md := .any) (l := l) (w := w.drew) (F := F) (J := J) (N := N) (M := l.length - N) (fl := fl) hpan hsel _ rs listed a (fun k hk => ⟨hrN' k hk, by have := hrN' k hk; omega⟩) hs.size hclo hD2 hr hJ
        (fun w' hw' => wC_mix.stillMono (fun a' h => by obtain ⟨f', h1, rfl⟩ := h; exact h1) (wO_still (hread w' hw') hs)) (fun a listed hs hseq => ?_)
      have h2 := wO_run hrest hs
      rw [← opsAt_drop l (l.length - N) N (by omega)] at h2
      have := wpH_seqT (P := P) (n := n) (md := .any) (l := l) (J := J) (hd := fun i => Nat.blt i N && !fl.contains i) (Q := fun e a' w' => e = .normal ∧ ∃ f', Sm n a' f' ∧ QC .normal f' w') (Qf := fun f' w' => QC .normal f' w')
        (fun f a w hs q => ⟨rfl, f, hs, q⟩) hpan ((List.range (l.length - N)).map (N + ·)) listed a w.drew (fun k hk => by
          obtain ⟨i, hi, rfl⟩ := List.mem_map.1 hk
          have := List.mem_range.1 hi
          refine ⟨?_, by omega⟩
          have : Nat.blt (N + i) N = false := by rw [Bool.eq_false_iff]; intro h; rw [Nat.blt_eq] at h; omega
          simp [this]) hseq h2
      simpa using this)
  have e : fl.length + (rs.length + (l.length - N)) = l.toArray.size := by simp; omega
  rw [e] at key
  exact key
theorem s_swap {id : Nat} {l : List Oper} {F1 F : Fr} (N : Nat) (fl rs : List Nat) (hm : P.follows .mixedOrders = true) (hB : swapB .any n l N fl rs = true) (hfl : ∀ w1, sO P n w1 (fun _ => False) l.toArray true (opsAt l fl) (QCF F1) f [])
    (hread : sO P n w0 f0 l.toArray true (opsAt l rs) (QCF F) F1 L) (hrest : sO P n w0 f0 l.toArray false (l.drop N) QC F L) : sC P n w0 f0 (.region id l.toArray true) QC f L := fun w H =>
  wC_swap (J := fun w' => St w0 f0 L w') N fl rs F1 F hm hB (H.idle (Step.drew w _)) (fun w1 => hfl w1 w1 (St.begin w1)) (fun w' H' => hread w' H') (hrest _ (H.idle (Step.drew w _)))
end
end
section
open Go Go.RowKit

/-- What may be read may be read later, too. -/
def Lasts (Rd : FP → World → Prop) : Prop := ∀ (ok ok' : FP) (w w' : World), Rd ok w → (∀ b, ok b → ok' b ∧ w'.heap[b]? = w.heap[b]?) → Rd ok' w'
theorem Lasts.d {α : Type} [Enc α] [Dp α] (x : α) : Lasts fun ok w => RdD ok w x := fun _ _ _ _ h hk => h.loc hk
theorem Lasts.b {α : Type} [I : Enc α] (b : Nat) (x : α) : Lasts fun ok w => RdB (I := I) ok w b x := fun _ _ _ _ h hk => ⟨h.h.loc hk⟩
theorem Lasts.and {R1 R2 : FP → World → Prop} (h1 : Lasts R1) (h2 : Lasts R2) : Lasts fun ok w => R1 ok w ∧ R2 ok w := fun _ _ _ _ h hk => ⟨h1 _ _ _ _ h.1 hk, h2 _ _ _ _ h.2 hk⟩
theorem Lasts.true : Lasts fun _ _ => True := fun _ _ _ _ _ _ => trivial
theorem Lasts.at {Rd : FP → World → Prop} (h : Lasts Rd) {w0 w : World} {f0 : FP} {L : List HP} (hR : Rd (okOf w0 f0) w0) (H : St w0 f0 L w) : Rd (okOf w fun _ => False) w := h _ _ _ _ hR H.ok0
theorem Lasts.ctx {Rd : FP → World → Prop} (h : Lasts Rd) {w0 w1 : World} {f0 f1 : FP} {L1 L2 : List HP} (hR : Rd (okOf w0 f0) w0) (C : Ctx w0 f0 L1 L2 w1 f1) : Rd (okOf w1 f1) w1 := h _ _ _ _ hR (C.st.ok C.fp)
theorem Spec.weaken {P : Program} {g : FuncId} {vs : List Value} {L1 : List HP} {Rd Rd' : FP → World → Prop} {RR RR' : Value → List HP → Prop} (h : Spec P g vs L1 Rd RR) (hr : ∀ ok w, Rd' ok w → Rd ok w) (hq : ∀ v L', RR v L' → RR' v L') : Spec P g vs L1 Rd' RR' :=
  fun w1 f1 hs hR => (h w1 f1 hs (hr _ _ hR)).mono fun v w' ⟨L', h1, h2⟩ => ⟨L', hq v L' h1, h2⟩

section
variable {P : Program} {n : Nat} {w0 w : World} {f0 : FP} {ops : Array Oper} {rest : List Oper} {QC : Exit → Fr → World → Prop} {f : Fr} {L : List HP} {ty : TypeId} {pos : String} {after : Array Edge} {x : Operand}
theorem s_callV0 {d : Tmp} {g : FuncId} {vs captured : List Value} {Rd : FP → World → Prop} {RR : Value → List HP → Prop} {lo : List Operand} {ats : Array TypeId} (hx : ev f x = .func (.func g) #[] captured.toArray) (spec : Spec P g (vs ++ captured) [] Rd RR) [hF : IsFc P g] (hv : lo.map (ev f) = vs)
    (hrd : ∀ w1, St w0 f0 L w1 → Rd (okOf w1 fun _ => False) w1) (hn : ∀ v L', RR v L' → sO P n w0 f0 ops false rest QC (up f d v) (L' ++ L)) (hd : Nat.blt d n = true := by rfl) :
    sO P n w0 f0 ops false (⟨some d, .call { callee := .value x, args := lo.toArray, argTypes := ats }, ty, pos, after, none⟩ :: rest) QC f L := by
  intro w H
  obtain ⟨fn, hF⟩ := hF.ex
  refine o_callV hx hF hv (spec w (fun _ => False) (fun _ h => h) (hrd w H)) (fun v w' ⟨L', hR, hs⟩ => hn v L' hR w' ?_) hd
  have h2 : St w0 f0 (L ++ L') w' := H.call0 L' w' hs
  exact h2.rot
/-- handed over: the same with pieces -/
theorem s_callV {d : Tmp} {g : FuncId} {vs captured : List Value} {L1 L2 : List HP} {Rd : FP → World → Prop} {RR : Value → List HP → Prop} {lo : List Operand} {ats : Array TypeId} (is : List Nat) (hx : ev f x = .func (.func g) #[] captured.toArray) (spec : Spec P g (vs ++ captured) L1 Rd RR) [hF : IsFc P g] (hv : lo.map (ev f) = vs) (hL : pickL is L = (L1, L2))
    (hrd : ∀ w1 f1, Ctx w0 f0 L1 L2 w1 f1 → Rd (okOf w1 f1) w1) (hn : ∀ v L', RR v L' → sO P n w0 f0 ops false rest QC (up f d v) (L' ++ L2)) (hd : Nat.blt d n = true := by rfl) :
    sO P n w0 f0 ops false (⟨some d, .call { callee := .value x, args := lo.toArray, argTypes := ats }, ty, pos, after, none⟩ :: rest) QC f L := by
  intro w H
  obtain ⟨fn, hF⟩ := hF.ex
  have H2 := H.pick is
  rw [hL] at H2
  obtain ⟨f', hf, hfb⟩ := H2.sf
  obtain ⟨f1, f2, e1, e2, e3, e4⟩ := SF.app.1 hf
  have hb1 : ∀ b, f1 b → f0 b ∨ w0.heap.size ≤ b := fun b hb => hfb b ((e1 b).2 (.inl hb))
  refine o_callV hx hF hv (spec w f1 e3 (hrd w f1 ⟨H2, hb1, f2, e4, e2⟩)) (fun v w' ⟨L', hR, hs⟩ => hn v L' hR w' ?_) hd
  obtain ⟨hs1, g1, hg, hgb⟩ := hs
  refine ⟨H2.step.trans hs1 hb1, fun b => g1 b ∨ f2 b, SF.app.2 ⟨g1, f2, fun b => Iff.rfl, fun b hb hb2 => ?_, hg, e4.loc fun b hb => hs1.keep b (e4.dom b hb) fun h1 => e2 b h1 hb⟩, ?_⟩
  · rcases hgb b hb with h1 | h1
    · exact e2 b h1 hb2
    · exact absurd (e4.dom b hb2) (Nat.not_lt.2 h1)
  · rintro b (hb | hb)
    · rcases hgb b hb with h1 | h1
      · exact hb1 b h1
      · exact .inr (Nat.le_trans H2.step.size h1)
    · exact hfb b ((e1 b).2 (.inr hb))
end

/-! maps whose keys are read -/
section
variable {P : Program} {n : Nat} {w0 w : World} {f0 : FP} {ops : Array Oper} {m : Bool} {rest : List Oper} {QC : Exit → Fr → World → Prop} {f : Fr} {L : List HP} {x y z : Operand}
variable {d : Tmp} {ty t e kt : TypeId} {pos : String} {after : Array Edge} {α : Type} {E : EK P e α} {N : Nat} {F : Int → Option α} {put : HP → List HP} {b : Nat} {k : Int}
theorem s_putW [hm : MpT P t kt e] {yv : α} (hx : ev f x = .map (some b)) (hy : ev f y = .int .i64 k) [h : PcM L b (mp E kt b N F) put] (hv : ev f z = E.enc yv) [hw : RdD (okOf w0 f0) w0 k] (hg : E.good yv) (hN : N < 1000000000) (hn : sO P n w0 f0 ops false rest QC f (put (mp E kt b (N + 1) (upd F k (some yv))))) : sO P n w0 f0 ops false (⟨none, .mapUpdate t x y z, ty, pos, after, none⟩ :: rest) QC f L :=
  s_put hx hy hv (RdD.int hw) hg hN hn
theorem s_putIW [hm : MpT P t kt e] {yv : α} (hx : ev f x = .map (some b)) (hy : ev f y = .int .i64 k) [h : PcM L b (mp E kt b N F) put] (hv : ev f z = E.enc yv) [hw : RdD (okOf w0 f0) w0 k] (hg : E.good yv) (hN : N < 1000000000) (hn : sO P n w0 f0 ops false rest QC f (put (mp E kt b (N + 1) (upd F k (some yv))))) : sO P n w0 f0 ops false (⟨none, .insert t x y z, ty, pos, after, none⟩ :: rest) QC f L :=
  s_putI hx hy hv (RdD.int hw) hg hN hn
theorem s_lookW [hm : MpT P t kt e] [he : Ekc P e α E] (hx : ev f x = .map (some b)) (hy : ev f y = .int .i64 k) [h : PcM L b (mp E kt b N F) put] [hw : RdD (okOf w0 f0) w0 k] (hn : sO P n w0 f0 ops m rest QC (up f d (E.enc ((F k).getD E.zero))) L) (hd : Nat.blt d n = true := by rfl) : sO P n w0 f0 ops m (⟨some d, .lookup t x y false, ty, pos, after, none⟩ :: rest) QC f L := s_look hx hy (RdD.int hw) hn hd
theorem s_lookSW [hm : MpT P t kt e] [he : Ekc P e α E] {v : Option Nat} (hx : ev f x = .map v) (hy : ev f y = .int .i64 k) [h : RdMp E kt (okOf w0 f0) w0 v N F] [hw : RdD (okOf w0 f0) w0 k] (hn : sO P n w0 f0 ops m rest QC (up f d (E.enc ((F k).getD E.zero))) L) (hd : Nat.blt d n = true := by rfl) : sO P n w0 f0 ops m (⟨some d, .lookup t x y false, ty, pos, after, none⟩ :: rest) QC f L := s_lookS hx hy (RdD.int hw) hn hd
theorem s_delW [hm : MpT P t kt e] (hx : ev f x = .map (some b)) (hy : ev f y = .int .i64 k) [h : PcM L b (mp E kt b N F) put] [hw : RdD (okOf w0 f0) w0 k] (hn : sO P n w0 f0 ops false rest QC (up f d (.tuple #[])) (put (mp E kt b N (upd F k none)))) (hd : Nat.blt d n = true := by rfl) : sO P n w0 f0 ops false (⟨some d, .call { callee := .builtin .delete, args := #[x, y], argTypes := #[t, kt] }, ty, pos, after, none⟩ :: rest) QC f L := s_del hx hy (RdD.int hw) hn hd
end
/-- What plain reckoning over lengths shows. -/
theorem om {p : Prop} (h : p := by first | omega | (simp only [dflt_int, List.length_set, List.length_replicate, List.length_append, List.length_cons, List.length_nil, List.length_take, List.length_drop]; omega)) : p := h
end
end Go.Proofs.Ytoknjpmlloikhaa
