/- Layer 12: what an instruction says, walked. -/
import Derived.Test.YtomhieglgfjloaaQ3
namespace Go.Proofs.Ytomhieglgfjloaa
set_option linter.unusedVariables false
set_option linter.unusedSimpArgs false
open Go Go.RowKit

section
variable {P : Program} {n : Nat} {w0 : World} {f0 : FP} {ops : Array Oper} {m : Bool} {rest : List Oper} {QC : Exit → Fr → World → Prop} {f : Fr} {L : List HP} {x y z : Operand} {d : Tmp} {ty : TypeId} {pos : String} {after : Array Edge}
theorem s_max3 {k k' k'' : IntKind} {a b c : Int} {ats : Array TypeId} (hx : ev f x = .int k a) (hy : ev f y = .int k' b) (hz : ev f z = .int k'' c) (h : sO P n w0 f0 ops m rest QC (up f d (.int k (max (max a b) c))) L) (hd : Nat.blt d n = true := by rfl) : sO P n w0 f0 ops m (⟨some d, .call { callee := .builtin .max, args := #[x, y, z], argTypes := ats }, ty, pos, after, none⟩ :: rest) QC f L := by
  intro w H
  refine o_pure (v := .int k (max (max a b) c)) rfl hd ?_ (h w H)
  have h1 : ∀ a b : Int, (if a < b then b else a) = max a b := fun a b => by rw [Int.max_def]; split <;> split <;> omega
  simp [execOp, resolve, invoke, builtin, hx, hy, hz, Builtin.max_, Builtin.max2, Result.andThen, h1]
end
def ofE (f : Nat) (xs : List Int) : Lb → Int := fun L => xs.foldl (fun m v => max m (L (0, f, v))) 0
def cutE (C : Nat → Int → Bool) (f : Nat) (v : Int) (e : Lb → Int) : Lb → Int := fun L => if C f v = true then stays (e L) else e L
def rqV (C : Nat → Int → Bool) (f : Nat) (v : Int) (e : Lb → Int) : Rq := ⟨(0, f, v), cutE C f v e⟩
def parsF (p : SsaProg) (f : Nat) : List Int := (nth (nth p.fFuncs.xs f).fBlocks.xs 0).fParams.xs
def callR (p : SsaProg) (C : Nat → Int → Bool) (f : Nat) (i : SsaIns) (n : Nat) : List Rq := (List.range n).map fun k => rqV C i.fFn.toNat (nth (parsF p i.fFn.toNat) k) fun L => stays (L (0, f, nth i.fArgs.xs k))
/-- What an instruction asks for. -/
def rqI (p : SsaProg) (C : Nat → Int → Bool) (W : List Bool) (f : Nat) (i : SsaIns) : List Rq :=
  if i.fOp = 1 then [rqV C f i.fDst fun _ => 0]
  else if i.fOp = 2 then [rqV C f i.fDst (ofE f i.fArgs.xs)]
  else if i.fOp = 3 ∨ i.fOp = 5 then [rqV C f i.fDst fun L => max (max (L (1, i.fArr.toNat, 0)) (ofE f i.fArgs.xs L)) (mayL W i)]
  else if i.fOp = 4 then [⟨(1, i.fArr.toNat, 0), fun L => stays (ofE f i.fArgs.xs L)⟩]
  else if i.fOp = 6 then [⟨(1, i.fArr.toNat, 0), fun L => stays (L (0, f, nth i.fArgs.xs 1))⟩]
  else if i.fOp = 7 then callR p C f i (parsF p i.fFn.toNat).length ++ [rqV C f i.fDst fun L => L (2, i.fFn.toNat, 0)]
  else []
structure Went (k : TC) (qs : List Rq) (s s' : LSt) : Prop where
  ok : s'.Ok k
  al : s'.A.length = s.A.length
  rl : s'.Rt.length = s.Rt.length
  run : (labL s', s'.t) = runR qs (labL s, s.t)
theorem Went.nil {k : TC} {s : LSt} (h : s.Ok k) : Went k [] s s := ⟨h, rfl, rfl, rfl⟩
theorem Went.trans {k : TC} {qs qs' : List Rq} {s s1 s2 : LSt} (h : Went k qs s s1) (g : Went k qs' s1 s2) : Went k (qs ++ qs') s s2 := ⟨g.ok, g.al.trans h.al, g.rl.trans h.rl, by rw [g.run, h.run, runR_app]⟩
theorem Went.val {k : TC} {s : LSt} (h : s.Ok k) {f : Nat} {v to : Int} {e : Lb → Int} (hv : v ∈ k.K f) (hto : 0 ≤ to ∧ to ≤ 2) (he : e (labL s) = to) : Went k [rqV k.cut f v e] s (valL s f v (if k.cut f v = true then stays to else to)) := by
  refine ⟨h.val hv ?_, rfl, rfl, ?_⟩
  · split
    · exact stays_in hto
    · exact hto
  · exact valL_app (by unfold cutE; rw [he])
theorem Went.arr {k : TC} {s : LSt} (h : s.Ok k) {i : Nat} {to : Int} {e : Lb → Int} (hi : i < s.A.length) (hto : 0 ≤ to ∧ to ≤ 2) (he : e (labL s) = to) : Went k [⟨(1, i, 0), e⟩] s (arrL s i to) := ⟨h.arr hto, List.length_set, rfl, arrL_app hi he⟩
theorem Went.ret {k : TC} {s : LSt} (h : s.Ok k) {i : Nat} {to : Int} {e : Lb → Int} (hi : i < s.Rt.length) (hto : 0 ≤ to ∧ to ≤ 2) (he : e (labL s) = to) : Went k [⟨(2, i, 0), e⟩] s (retL s i to) := ⟨h.ret hto, rfl, List.length_set, retL_app hi he⟩
theorem fold_in {L : Int → Int} (h : ∀ v, 0 ≤ L v ∧ L v ≤ 2) : ∀ {xs : List Int} {m : Int}, 0 ≤ m ∧ m ≤ 2 → 0 ≤ xs.foldl (fun m v => max m (L v)) m ∧ xs.foldl (fun m v => max m (L v)) m ≤ 2
  | [], _, hm => hm
  | x :: xs, m, hm => fold_in h (xs := xs) (by have := h x; show 0 ≤ max m (L x) ∧ max m (L x) ≤ 2; omega)
theorem ofE_in {k : TC} {s : LSt} (hs : s.Ok k) {f : Nat} (hf : f < k.n) (xs : List Int) : 0 ≤ ofE f xs (labL s) ∧ ofE f xs (labL s) ≤ 2 := fold_in (fun v => hs.lv hf v) ⟨Int.le_refl _, by decide⟩
set_option maxHeartbeats 4000000 in
theorem of12_spec (k : TC) (hk : k.Ok) (s : LSt) (hs : s.Ok k) (f : Nat) (hf : f < k.n) (a : Sl Int) (ha : a.xs.length ≤ 1000) :
    Spec Try.prog 51 [.pointer (some ⟨k.b, 0, none⟩), .int .i64 (f : Nat), .slice a.A a.xs.length a.c] (solL k s) (fun ok w => RdD ok w a) fun r L' => r = .int .i64 (ofE f a.xs (labL s)) ∧ L' = solL k s := by
  refine spec_of Try.func51 rfl rfl fun w0 f0 hR => ?_
  have hvl := hk.vl
  have hvb := hk.v f hf
  refine s_sub (PSub.solOut hf) ?_
  (repeat' (first | refine s_move ?_ | refine s_assign ?_ | refine s_nil ?_ | (refine k_C ?_; first | refine s_seq ?_ | refine s_region ?_ | refine s_block ?_) | (refine k_E ?_; refine e_seq ?_) | (refine k_call ?_; refine s_len rfl ?_)))
  refine s_loop (σ := Nat × Int) (fun q => [(0, .pointer (some ⟨k.b, 0, none⟩)), (1, .int .i64 (f : Nat)), (10, .slice a.A a.xs.length a.c), (11, .int .i64 a.xs.length), (12, .int .i64 (q.1 : Nat)), (7, .int .i64 q.2)]) (fun _ => [mp EL 3 (k.mv f) (k.K f).length (s.V f), mp EB 3 (k.mc f) (k.NC f) (k.C f), var 78 k.b (⟨k.p, ⟨k.xv, ⟨k.Aa, k.ca, s.A⟩, ⟨k.Ar, k.cr, s.Rt⟩, k.xc⟩, k.xw, s.t⟩ : TaintSolver), own 56 k.xv.A k.xv.xs.length k.xv.c k.xv.xs, own 42 k.Aa s.A.length k.ca s.A, own 42 k.Ar s.Rt.length k.cr s.Rt, own 29 k.xc.A k.xc.xs.length k.xc.c k.xc.xs, own 4 k.xw.A k.xw.xs.length k.xw.c k.xw.xs, bagGX EL 3 (fun j => (k.K j).length) k.n k.mv s.V f, bagGX EB 3 k.NC k.n k.mc k.C f])
    (fun q => q.1 ≤ a.xs.length ∧ q.2 = ofE f (a.xs.take q.1) (labL s)) (fun q => a.xs.length - q.1) (0, 0) (by repeat (first | exact trivial | refine ⟨rfl, ?_⟩)) ⟨Nat.zero_le _, rfl⟩ PSub.refl ?_
  rintro g ⟨i, m⟩ ⟨hi, hm⟩
  dsimp only at hi hm ⊢
  (repeat' (first | refine s_nil ?_ | (refine k_C ?_; first | refine s_seq ?_ | refine s_region ?_) | (refine k_E ?_; refine e_seq ?_) | (refine k_bin ?_; refine s_lss rfl rfl ?_)))
  (first | (refine k_C ?_; (refine s_ifd rfl ?_ ?_ <;> intro hc <;> try (exfalso; omega))))
  rotate_left
  · have hiE : i = a.xs.length := by omega
    subst hiE
    rw [List.take_length] at hm
    subst hm
    (repeat' (first | refine s_move ?_ | refine s_assign ?_ | refine s_nil ?_ | (refine k_C ?_; first | refine s_seq ?_ | refine s_region ?_ | refine s_exit ?_ | refine s_ret ?_) | (refine k_E ?_; first | refine e_seq ?_ | refine e_seq_exit ?_ | refine e_bk_exit ?_ | refine e_lp_exit ?_)))
    exact e_done rfl rfl _ (PSub.solIn hf) ⟨rfl, rfl⟩
  have hil : i < a.xs.length := by omega
  (repeat' (first | refine s_move ?_ | refine s_assign ?_ | refine s_nil ?_ | (refine k_C ?_; first | refine s_seq ?_ | refine s_region ?_ | refine s_skip ?_ | refine s_block ?_) | (refine k_E ?_; refine e_seq ?_) | (refine k_load ?_; first | refine s_ldB rfl rfl ?_ | refine s_ld rfl om rfl ?_ | refine s_ldS rfl rfl om rfl ?_) | (refine k_fld ?_; refine s_fldB rfl ?_) | (refine k_idx ?_; first | refine s_idx rfl rfl om ?_ | refine s_idxS rfl rfl om ?_) | refine s_nilck rfl ?_))
  rw [hvb]
  refine s_lookW rfl rfl ?_
  rw [el_z]
  (repeat' (first | refine s_move ?_ | refine s_assign ?_ | refine s_nil ?_ | (refine k_C ?_; refine s_region ?_) | (refine k_E ?_; first | refine e_seq ?_ | refine e_bk ?_) | (refine k_bin ?_; refine s_add1 rfl rfl om ?_) | (refine k_call ?_; refine s_max rfl rfl ?_)))
  exact e_lp (i + 1, max m ((s.V f (nth a.xs i)).getD 0)) (by repeat (first | exact trivial | refine ⟨rfl, ?_⟩)) ⟨by show i + 1 ≤ _; omega, by show max m _ = ofE f (a.xs.take (i + 1)) _; rw [← takeN hil]; unfold ofE at hm ⊢; rw [List.foldl_append, ← hm]; rfl⟩ (by show _ - _ < _ - _; omega) PSub.refl
end Go.Proofs.Ytomhieglgfjloaa
