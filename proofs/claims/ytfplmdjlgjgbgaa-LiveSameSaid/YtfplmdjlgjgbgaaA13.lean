/- How many keys a map has; arrays of many cells; functions against nil. -/
import Derived.Test.YtfplmdjlgjgbgaaA12
namespace Go.Proofs.Ytfplmdjlgjgbgaa
set_option linter.unusedVariables false
set_option linter.unusedSimpArgs false
open Go Go.RowKit Go.Maps
open Go.WideElems (Fit rg rd_key rg_of)

section
variable {P : Program} {e kt : TypeId} {α : Type} {E : EK P e α} {es : Array MapEntry} {clock n : Nat} {f : Int → Option α}
/-- The keys of a map, each once. -/
theorem Froz.card (hk : P.underlying kt = some (.int .i64)) (h : Froz E kt es clock n f) : ∃ ks : List Int, ks.Nodup ∧ ks.length = es.size ∧ ∀ k, k ∈ ks ↔ f k ≠ none := by
  obtain ⟨hF, _, hw, _, hh⟩ := h
  have key : ∀ x ∈ es.toList, ∃ k : Int, (rg P kt (plainElem (H := Unit) P e) x).1 = .int .i64 k ∧ wfi k := fun x hx => by
    obtain ⟨y, hy⟩ := hF.reads x hx
    obtain ⟨k, _, h2, h3⟩ := keyOf_int_inv hk (rd_key hy)
    exact ⟨k, by rw [rg_of hy, h2], wfi_iff.2 h3⟩
  let ki : MapEntry → Int := fun x => match (rg P kt (plainElem (H := Unit) P e) x).1 with | .int _ k => k | _ => 0
  have hki : ∀ x ∈ es.toList, (rg P kt (plainElem (H := Unit) P e) x).1 = .int .i64 (ki x) ∧ wfi (ki x) := fun x hx => by
    obtain ⟨k, h1, h2⟩ := key x hx
    have : ki x = k := by show (match (rg P kt (plainElem (H := Unit) P e) x).1 with | .int _ k => k | _ => 0) = k; rw [h1]
    rw [this]; exact ⟨h1, h2⟩
  refine ⟨es.toList.map ki, ?_, by simp, fun k => ⟨fun hk' => ?_, fun hk' => ?_⟩⟩
  · have hp := WideShapes.apart_of_rising _ (fit_rising (int_keyed hk) hF)
    rw [List.pairwise_map] at hp
    rw [List.Nodup, List.pairwise_map]
    refine List.Pairwise.imp_of_mem ?_ hp
    intro a b ha hb hne heq
    exact hne (by rw [(hki a ha).1, (hki b hb).1, heq])
  · obtain ⟨x, hx, rfl⟩ := List.mem_map.1 hk'
    obtain ⟨h1, h2⟩ := hki x hx
    have h3 := (hh _ h2).1
    have h4 : Maps.has (DataW.map ((es.toList.map (rg P kt (plainElem (H := Unit) P e))).foldr DataW.insert [])) (.int .i64 (ki x)) = true := by
      show (List.any _ _) = true
      rw [List.any_eq_true]
      exact ⟨rg P kt (plainElem (H := Unit) P e) x, mem_sorted.2 (List.mem_map.2 ⟨x, hx, rfl⟩), by rw [h1, sameKey_i]; simp⟩
    rw [h4] at h3
    intro h5; rw [h5] at h3; cases h3
  · have h2 := hw k hk'
    have h3 := (hh k h2).1
    have h4 : (f k).isSome = true := by cases hf : f k with | none => exact absurd hf hk' | some _ => rfl
    rw [h4] at h3
    have h3 : (List.any _ _) = true := h3
    rw [List.any_eq_true] at h3
    obtain ⟨p, hp, hs⟩ := h3
    obtain ⟨x, hx, rfl⟩ := List.mem_map.1 (mem_sorted.1 hp)
    rw [(hki x hx).1, sameKey_i] at hs
    exact List.mem_map.2 ⟨x, hx, by simpa using hs⟩
theorem nodup_le {ks us : List Int} (h : ks.Nodup) (hs : ∀ k ∈ ks, k ∈ us) : ks.length ≤ us.length := by
  induction ks generalizing us with
  | nil => exact Nat.zero_le _
  | cons k ks ih =>
    obtain ⟨h1, h2⟩ := List.nodup_cons.1 h
    have hk := hs k (by simp)
    have : ks.length ≤ (us.erase k).length := ih h2 fun j hj => by
      have hjk : j ≠ k := fun e => h1 (e ▸ hj)
      exact (List.mem_erase_of_ne hjk).2 (hs j (by simp [hj]))
    rw [List.length_erase_of_mem hk] at this
    have := List.length_pos_of_mem hk
    simp only [List.length_cons]; omega
end
section
variable {P : Program} {n : Nat} {w0 w : World} {f0 : FP} {ops : Array Oper} {m : Bool} {rest : List Oper} {QC : Exit → Fr → World → Prop} {f : Fr} {L : List HP} {x y z : Operand} {c1 : Code}
variable {d : Tmp} {ty t yt e kt : TypeId} {pos : String} {after : Array Edge} {α : Type} {E : EK P e α} {N : Nat} {F : Int → Option α} {put : HP → List HP} {b : Nat} {k : Int}
/-- len of a map of the call's own. -/
theorem s_lenC [hm : MpT P t kt e] (hx : ev f x = .map (some b)) [h : PcM L b (mp E kt b N F) put] (hn : ∀ ks : List Int, ks.Nodup → (∀ k, k ∈ ks ↔ F k ≠ none) → sO P n w0 f0 ops m rest QC (up f d (.int .i64 (ks.length : Nat))) L) (hd : Nat.blt d n = true := by rfl) : sO P n w0 f0 ops m (⟨some d, .call { callee := .builtin .len, args := #[x], argTypes := #[t] }, ty, pos, after, none⟩ :: rest) QC f L := by
  intro w H
  obtain ⟨i, hi, _⟩ := h.at_
  obtain ⟨g, hA, _⟩ := H.focus i hi
  obtain ⟨es, clock, h1, h2⟩ := hA.2.froz
  obtain ⟨ks, h3, h4, h5⟩ := h2.card hm.k
  refine o_pure (v := .int .i64 (ks.length : Nat)) rfl hd ?_ (hn ks h3 h5 w H)
  simp [execOp, resolve, invoke, builtin, hx, Builtin.len_, run_underlying hm.u, goInt, Result.andThen, getObj, h1, Sem.run, h4]
/-- .. of one that is only read -/
theorem s_lenCS [hm : MpT P t kt e] {v : Option Nat} (hx : ev f x = .map v) [h : RdMp E kt (okOf w0 f0) w0 v N F] (hn : ∀ ks : List Int, ks.Nodup → (∀ k, k ∈ ks ↔ F k ≠ none) → sO P n w0 f0 ops m rest QC (up f d (.int .i64 (ks.length : Nat))) L) (hd : Nat.blt d n = true := by rfl) : sO P n w0 f0 ops m (⟨some d, .call { callee := .builtin .len, args := #[x], argTypes := #[t] }, ty, pos, after, none⟩ :: rest) QC f L := by
  intro w H
  rcases h.h with ⟨rfl, h0⟩ | ⟨b, rfl, hok, hM⟩
  · refine o_pure (v := .int .i64 ((([] : List Int).length : Nat) : Int)) rfl hd ?_ (hn [] List.nodup_nil (fun k => by simp [h0]) w H)
    simp [execOp, resolve, invoke, builtin, hx, Builtin.len_, run_underlying hm.u, goInt, Result.andThen]
  · obtain ⟨es, clock, hb, hz⟩ := hM.froz
    obtain ⟨ks, h3, h4, h5⟩ := hz.card hm.k
    refine o_pure (v := .int .i64 (ks.length : Nat)) rfl hd ?_ (hn ks h3 h5 w H)
    have hb' := (H.ok0 b hok).2.trans hb
    simp [execOp, resolve, invoke, builtin, hx, Builtin.len_, run_underlying hm.u, goInt, Result.andThen, getObj, hb', Sem.run, h4]
/-- A map has no more entries than it may have keys. -/
theorem PSub.mpCut (us : List Int) (hk : P.underlying kt = some (.int .i64)) (hu : ∀ k, F k ≠ none → k ∈ us) : PSub w0 f0 (mp E kt b N F :: L) (mp E kt b us.length F :: L) := fun w H => H.turn 0 rfl fun g hg => ⟨hg.1, by
  obtain ⟨es, clock, h1, h2⟩ := hg.2.froz
  obtain ⟨ks, h3, h4, h5⟩ := h2.card hk
  exact IsM.of_froz h1 ⟨h2.1, by rw [← h4]; exact nodup_le h3 fun k hk => hu k ((h5 k).1 hk), h2.2.2⟩⟩
/-- What a map holds is fit. -/
theorem s_wfM {c : Code} (b : Nat) [h : PcM L b (mp E kt b N F) put] (hn : (∀ k, F k ≠ none → wfi k) → sC P n w0 f0 c QC f L) : sC P n w0 f0 c QC f L := by
  intro w H
  obtain ⟨i, hi, _⟩ := h.at_
  obtain ⟨g, hA, _⟩ := H.focus i hi
  obtain ⟨es, clock, h1, h2⟩ := hA.2.froz
  exact hn h2.2.2.1 w H
/-! functions against nil -/
def isFn : Value → Bool
  | .nilFunc => false
  | _ => true
class FnT (P : Program) (t : TypeId) : Prop where
  u : ∃ s, P.underlying t = some s ∧ match s with | .func .. => True | _ => False
theorem run_fnil {p r : Array TypeId} {vd : Bool} (m : Nat) (ht : P.underlying t = some (.func p r vd)) : (Op.equalIn (m + 1) t .nilFunc .nilFunc).run P w = .ok true w := by
  simp [Op.equalIn, run_underlying ht]
theorem run_fnot {p r : Array TypeId} {vd : Bool} {g : Fn} {a c : Array Value} (m : Nat) (ht : P.underlying t = some (.func p r vd)) : (Op.equalIn (m + 1) t (.func g a c) .nilFunc).run P w = .ok false w := by
  simp [Op.equalIn, run_underlying ht]
theorem s_fnn [h : FnT P t] {p : Value} (hx : ev f x = p) (hp : p = .nilFunc ∨ ∃ g a c, p = .func g a c) (hy : ev f y = .nilFunc) (hn : sO P n w0 f0 ops m rest QC (up f d (.bool (isFn p))) L) (hd : Nat.blt d n = true := by rfl) :
    sO P n w0 f0 ops m (⟨some d, .binOp .neq t x y yt, ty, pos, after, none⟩ :: rest) QC f L := by
  intro w H
  obtain ⟨s, ht, hs⟩ := h.u
  refine o_pure (v := .bool (isFn p)) rfl hd ?_ (hn w H)
  show (Sem.run P (do pure (Next.value (← (do eqGuard .neq t x y (ev f x) (ev f y); binOp .neq t (ev f x) (ev f y))))) w) = _
  rw [hx, hy]
  cases s <;> simp at hs
  rcases hp with rfl | ⟨g, a, c, rfl⟩
  · have he : (Op.equal t .nilFunc .nilFunc).run P w = .ok true w := run_fnil 9999 ht
    simp [eqGuard, binOp, he, Result.andThen, isFn]
  · have he : (Op.equal t (.func g a c) .nilFunc).run P w = .ok false w := run_fnot 9999 ht
    simp [eqGuard, binOp, he, Result.andThen, isFn]
end
/-- Cells of one type, one behind the other. -/
structure Vn (k : Nat) (α : Type) where
  xs : List α
  len : xs.length = k
instance {k : Nat} {α : Type} [I : Enc α] : Enc (Vn (k + 1) α) where
  enc := fun v => v.xs.flatMap I.enc
  sz := (k + 1) * I.sz
  dflt := ⟨List.replicate (k + 1) I.dflt, by simp⟩
  len := fun v => by rw [flat_len fun a _ => I.len a, v.len]
  one := fun v u h => by
    obtain ⟨a, _, h2⟩ := List.mem_flatMap.1 h
    exact I.one a u h2
  pos := Nat.mul_pos (Nat.succ_pos k) I.pos
def Vn.set {k : Nat} {α : Type} (v : Vn k α) (j : Nat) (x : α) : Vn k α := ⟨v.xs.set j x, by rw [List.length_set, v.len]⟩
section
variable {P : Program} {n : Nat} {w0 w : World} {f0 : FP} {ops : Array Oper} {m : Bool} {rest : List Oper} {QC : Exit → Fr → World → Prop} {f : Fr} {L : List HP} {x y : Operand}
variable {d : Tmp} {ty t e : TypeId} {pos : String} {after : Array Edge} {put : HP → List HP} {b j k : Nat}
theorem vn_at {v : Vn (k + 1) Bool} (hj : j < k + 1) : (Enc.enc v)[j * 1]? = some (.bool (nth v.xs j)) := by
  show (v.xs.flatMap fun x => [Value.bool x])[j * 1]? = _
  rw [flat_one, List.getElem?_map, Nat.mul_one, nth_some (by rw [v.len]; exact hj)]; rfl
theorem add_at0 : (⟨b, 0, none⟩ : Addr).add j = ⟨b, j, none⟩ := by
  rw [add_spot rfl]
  show (⟨b, 0 + j, none⟩ : Addr) = _
  rw [Nat.zero_add]
theorem s_ldVn [hT : C1 P t] {v : Vn (k + 1) Bool} (hx : ev f x = .pointer (some ((⟨b, 0, none⟩ : Addr).add (j * 1)))) [h : PcB L b (var e b v) put] (hj : j < k + 1)
    (hn : sO P n w0 f0 ops m rest QC (up f d (.bool (nth v.xs j))) L) (hd : Nat.blt d n = true := by rfl) : sO P n w0 f0 ops m (⟨some d, .load t x, ty, pos, after, none⟩ :: rest) QC f L :=
  s_ldB (o := j * 1) (by rw [hx, add_at0]) (vn_at hj) hn hd
theorem s_stVn [hT : C1 P t] {v : Vn (k + 1) Bool} {u : Bool} (hx : ev f x = .pointer (some ((⟨b, 0, none⟩ : Addr).add (j * 1)))) [h : PcB L b (var e b v) put] (hv : (ev f y).cells.toList = [.bool u]) (hj : j < k + 1)
    (hn : sO P n w0 f0 ops false rest QC f (put (var e b (v.set j u)))) : sO P n w0 f0 ops false (⟨none, .store t x y, ty, pos, after, none⟩ :: rest) QC f L :=
  s_stB (v.set j u) (o := j * 1) (by rw [hx, add_at0]) hv (by
    show (v.xs.flatMap fun x => [Value.bool x]).set (j * 1) (.bool u) = ((v.xs.set j u).flatMap fun x => [Value.bool x])
    rw [flat_one, flat_one, Nat.mul_one, List.map_set]) (by show j * 1 < (k + 1) * 1; omega) hn
end
end Go.Proofs.Ytfplmdjlgjgbgaa
