/- Layer 12: the law's own facts as they are held; its two closures, walked. -/
import Derived.Test.YtomhieglgfjloaaQ21
namespace Go.Proofs.Ytomhieglgfjloaa
set_option linter.unusedVariables false
set_option linter.unusedSimpArgs false
open Go Go.RowKit

theorem T1_is : T1 Try.prog 87 := ⟨fun w => by kernel_rfl, fun w => by kernel_rfl⟩
theorem TI_is : TI Try.prog 87 .nilFunc 1 8 := TI.of (by kernel_rfl) rfl (by decide) (by decide)
instance : C1 Try.prog 87 := ⟨T1_is⟩
instance : Elt Try.prog 87 Fv (by infer_instance) 1 8 := ⟨⟨_, TI_is, rfl⟩, rfl⟩
structure FSt where
  V : Nat → Int → Option Bool
  A : List Bool
  Rt : List Bool
def memF (s : FSt) : Fb := fun g => if g.1 = 0 then (s.V g.2.1 g.2.2).getD false else if g.2.2 ≠ 0 then false else if g.1 = 1 then nth s.A g.2.1 else if g.1 = 2 then nth s.Rt g.2.1 else false
def putV (s : FSt) (f : Nat) (v : Int) (y : Bool) : FSt := ⟨updB s.V f (upd (s.V f) v (some y)), s.A, s.Rt⟩
def putA (s : FSt) (i : Nat) (y : Bool) : FSt := ⟨s.V, s.A.set i y, s.Rt⟩
def putR (s : FSt) (i : Nat) (y : Bool) : FSt := ⟨s.V, s.A, s.Rt.set i y⟩
theorem memF_v {s : FSt} {f : Nat} {v : Int} : memF s (0, f, v) = (s.V f v).getD false := rfl
theorem memF_a {s : FSt} {i : Nat} : memF s (1, i, 0) = nth s.A i := rfl
theorem memF_r {s : FSt} {f : Nat} : memF s (2, f, 0) = nth s.Rt f := rfl
theorem memF_putV {s : FSt} {f : Nat} {v : Int} {y : Bool} : memF (putV s f v y) = fun h => if h = (0, f, v) then y else memF s h := by
  funext g
  obtain ⟨i, j, k⟩ := g
  split
  · rename_i h
    cases h
    show (updB s.V f (upd (s.V f) v (some _)) f v).getD false = _
    rw [updB_same]
    simp [upd]
  · rename_i h
    unfold memF putV
    by_cases hi : i = 0
    · subst hi
      simp only [if_true]
      by_cases hj : j = f
      · subst hj
        rw [updB_same]
        have hk : k ≠ v := fun e => h (by rw [e])
        simp [upd, hk]
      · rw [updB_ne hj]
    · simp only [if_neg hi]
theorem memF_putA {s : FSt} {i : Nat} {y : Bool} (hi : i < s.A.length) : memF (putA s i y) = fun h => if h = (1, i, 0) then y else memF s h := by
  funext g
  obtain ⟨a, j, k⟩ := g
  split
  · rename_i h
    cases h
    show nth (s.A.set i _) i = _
    rw [nth_set hi, if_pos rfl]
  · rename_i h
    unfold memF putA
    by_cases h0 : a = 0
    · simp only [if_pos h0]
    · simp only [if_neg h0]
      by_cases hk : k = 0
      · by_cases h1 : a = 1
        · have hj : j ≠ i := fun e => h (by rw [h1, e, hk])
          simp only [h1, if_true]
          rw [nth_set hi, if_neg hj]
        · simp only [if_neg h1]
      · simp [hk]
theorem memF_putR {s : FSt} {i : Nat} {y : Bool} (hi : i < s.Rt.length) : memF (putR s i y) = fun h => if h = (2, i, 0) then y else memF s h := by
  funext g
  obtain ⟨a, j, k⟩ := g
  split
  · rename_i h
    cases h
    show nth (s.Rt.set i _) i = _
    rw [nth_set hi, if_pos rfl]
  · rename_i h
    unfold memF putR
    by_cases h0 : a = 0
    · simp only [if_pos h0]
    · simp only [if_neg h0]
      by_cases hk : k = 0
      · by_cases h1 : a = 1
        · simp only [if_pos h1]
        · simp only [if_neg h1]
          by_cases h2 : a = 2
          · have hj : j ≠ i := fun e => h (by rw [h2, e, hk])
            simp only [if_pos h2]
            rw [nth_set hi, if_neg hj]
          · simp only [if_neg h2]
      · simp [hk]
/-- What of the facts stays as it is. -/
structure FC where
  b : Nat
  xv : Sl Mr
  Aa : Option Addr
  ca : Nat
  Ar : Option Addr
  cr : Nat
  mv : Nat → Nat
  n : Nat
  K : Nat → List Int
structure FC.Ok (k : FC) : Prop where
  n : k.n ≤ 1000
  vl : k.xv.xs.length = k.n
  v : ∀ j, j < k.n → (nth k.xv.xs j).b = some (k.mv j)
  K : ∀ j, j < k.n → (k.K j).length ≤ 1000000
def FSt.Ok (k : FC) (s : FSt) : Prop := ∀ f, f < k.n → ∀ v, s.V f v ≠ none → v ∈ k.K f
theorem FSt.Ok.put {k : FC} {s : FSt} (h : s.Ok k) {f : Nat} {v : Int} {y : Bool} (hv : v ∈ k.K f) : (putV s f v y).Ok k := fun g hg u hu => by
  have hu : updB s.V f (upd (s.V f) v (some _)) g u ≠ none := hu
  by_cases e : g = f
  · subst e
    rw [updB_same] at hu
    unfold upd at hu
    split at hu
    · rename_i e; rw [e]; exact hv
    · exact h g hg u hu
  · rw [updB_ne e] at hu
    exact h g hg u hu
/-- What a walk of requests turned. -/
structure FW (x : Fx) (k : FC) (qs : List Fq) (s s' : FSt) : Prop where
  ok : s'.Ok k
  al : s'.A.length = s.A.length
  rl : s'.Rt.length = s.Rt.length
  run : memF s' = runF x qs (memF s)
section
variable {x : Fx} {k : FC} {s s1 s2 : FSt} {qs qs' : List Fq}
theorem FW.nil (h : s.Ok k) : FW x k [] s s := ⟨h, rfl, rfl, rfl⟩
theorem FW.trans (h : FW x k qs s s1) (g : FW x k qs' s1 s2) : FW x k (qs ++ qs') s s2 := ⟨g.ok, g.al.trans h.al, g.rl.trans h.rl, by rw [g.run, h.run, runF_app]⟩
theorem addF_eq {M : Fb} {q : Fq} : addF x M q = fun h => if h = q.g then M q.g || cF x q M else M h := rfl
theorem FW.put (h : s.Ok k) {f : Nat} {v : Int} {to sure : Fb → Bool} {y : Bool} (hv : v ∈ k.K f) (hy : y = ((s.V f v).getD false || cF x ⟨(0, f, v), to, sure⟩ (memF s))) : FW x k [⟨(0, f, v), to, sure⟩] s (putV s f v y) := by
  refine ⟨h.put hv, rfl, rfl, ?_⟩
  rw [memF_putV, hy]; rfl
theorem FW.set (h : s.Ok k) {f : Nat} {v : Int} {to sure : Fb → Bool} {y : Bool} (hv : v ∈ k.K f) (hy : y = cF x ⟨(0, f, v), to, sure⟩ (memF s)) : FW x k [⟨(0, f, v), to, sure⟩] s (if y = true then putV s f v true else s) := by
  split
  · rename_i e
    exact FW.put h hv (by rw [← hy, e, Bool.or_true])
  · rename_i e
    refine ⟨h, rfl, rfl, ?_⟩
    show _ = fun h => if h = (0, f, v) then memF s (0, f, v) || cF x _ (memF s) else memF s h
    rw [← hy, Bool.eq_false_iff.2 e, Bool.or_false]
    funext g
    split
    · rename_i e2; rw [e2]
    · rfl
theorem FW.arr (h : s.Ok k) {i : Nat} {to sure : Fb → Bool} {y : Bool} (hi : i < s.A.length) (hy : y = (nth s.A i || cF x ⟨(1, i, 0), to, sure⟩ (memF s))) : FW x k [⟨(1, i, 0), to, sure⟩] s (putA s i y) := by
  refine ⟨h, List.length_set, rfl, ?_⟩
  rw [memF_putA hi, hy]; rfl
theorem FW.ret (h : s.Ok k) {i : Nat} {to sure : Fb → Bool} {y : Bool} (hi : i < s.Rt.length) (hy : y = (nth s.Rt i || cF x ⟨(2, i, 0), to, sure⟩ (memF s))) : FW x k [⟨(2, i, 0), to, sure⟩] s (putR s i y) := by
  refine ⟨h, rfl, List.length_set, ?_⟩
  rw [memF_putR hi, hy]; rfl
end
def cutB (Cf : Nat → Int → Option Bool) (f : Nat) (v : Int) : Bool := (Cf f v).getD false
theorem is_spec (b4 : Nat) (cut : Sl Mr) (Nc : Nat → Nat) (Cf : Nat → Int → Option Bool) (hCo : ∀ j, cut.xs.length ≤ j → Cf j = fun _ => none) (f : Nat) (v : Int) (hv : wfi v) :
    Spec Try.prog 29 ([.int .i64 (f : Nat), .int .i64 v] ++ [.pointer (some ⟨b4, 0, none⟩)]) [var 26 b4 cut] (RdCut cut Nc Cf) fun r L' => r = .bool (cutB Cf f v) ∧ L' = [var 26 b4 cut] := by
  refine spec_of Try.func29 rfl rfl fun w0 f0 hR => ?_
  have hRv := hR.1
  have hRm := hR.2
  haveI : RdD (okOf w0 f0) w0 v := ⟨hv⟩
  by_cases hf : f < cut.xs.length
  · haveI : RdMp EB 3 (okOf w0 f0) w0 (nth cut.xs f).b (Nc f) (Cf f) := ⟨hRm f hf⟩
    (repeat' (first | refine s_move ?_ | refine s_assign ?_ | refine s_nil ?_ | (refine k_C ?_; first | refine s_seq ?_ | refine s_region ?_ | refine s_ret ?_) | (refine k_E ?_; refine e_seq ?_) | (refine k_load ?_; first | refine s_ldB rfl rfl ?_ | refine s_ldS rfl rfl om rfl ?_) | (refine k_bin ?_; refine s_lss rfl rfl ?_) | (refine k_idx ?_; refine s_idxS rfl rfl om ?_) | (refine k_call ?_; refine s_len rfl ?_) | (refine k_guard ?_; first | refine s_on rfl rfl ?_ | (refine s_casesd rfl rfl ?_ ?_ <;> intro hc <;> try (exfalso; omega))) | refine s_lookSW rfl rfl ?_ | refine s_pick rfl ?_))
    rw [eb_z]
    exact e_done rfl rfl _ PSub.refl ⟨rfl, rfl⟩
  · (repeat' (first | refine s_move ?_ | refine s_assign ?_ | refine s_nil ?_ | (refine k_C ?_; first | refine s_seq ?_ | refine s_region ?_ | refine s_ret ?_) | (refine k_E ?_; refine e_seq ?_) | (refine k_load ?_; refine s_ldB rfl rfl ?_) | (refine k_bin ?_; refine s_lss rfl rfl ?_) | (refine k_call ?_; refine s_len rfl ?_) | (refine k_guard ?_; first | refine s_off rfl rfl rfl rfl ?_ | (refine s_casesd rfl rfl ?_ ?_ <;> intro hc <;> try (exfalso; omega))) | refine s_pick rfl ?_))
    exact e_done rfl rfl _ PSub.refl ⟨by unfold cutB; rw [hCo f (by omega)]; rfl, rfl⟩
noncomputable abbrev bitsL (b18 b20 b27 b4 : Nat) (stay : Bool) (f : Nat) (cut : Sl Mr) : List HP := [var 4 b18 stay, var 87 b20 (Fv.fn 29 [.pointer (some ⟨b4, 0, none⟩)]), var 3 b27 (f : Int), var 26 b4 cut]
/-- What `set` turns. -/
def setS (s : FSt) (C : Nat → Int → Bool) (stay : Bool) (f : Nat) (v : Int) (to sure : Bool) : FSt := ⟨if ((to && (stay || !C f v)) || sure) = true then updB s.V f (upd (s.V f) v (some true)) else s.V, s.A, s.Rt⟩
theorem FW.setV {x : Fx} {k : FC} {s : FSt} (h : s.Ok k) {f : Nat} {v : Int} {to sure : Fb → Bool} {tb sb : Bool} (hv : v ∈ k.K f) (htb : tb = to (memF s)) (hsb : sb = sure (x.sec (memF s))) : FW x k [⟨(0, f, v), to, sure⟩] s (setS s x.C x.stay f v tb sb) := by
  have h1 := FW.set (x := x) h (to := to) (sure := sure) hv (y := ((tb && (x.stay || !x.C f v)) || sb)) (by rw [htb, hsb]; rfl)
  have h2 : setS s x.C x.stay f v tb sb = if ((tb && (x.stay || !x.C f v)) || sb) = true then putV s f v true else s := by
    unfold Go.Proofs.Ytomhieglgfjloaa.setS
    split <;> rfl
  rw [h2]
  exact h1
set_option maxHeartbeats 4000000 in
theorem set_spec (k : FC) (hk : k.Ok) (s : FSt) (hs : s.Ok k) (b4 b18 b20 b27 : Nat) (stay : Bool) (cut : Sl Mr) (Nc : Nat → Nat) (Cf : Nat → Int → Option Bool) (hCo : ∀ j, cut.xs.length ≤ j → Cf j = fun _ => none) (f : Nat) (hf : f < k.n) (v : Int) (hv : v ∈ k.K f) (hvw : wfi v) (to sure : Bool) :
    Spec Try.prog 30 ([.int .i64 v, .bool to, .bool sure] ++ [.pointer (some ⟨b18, 0, none⟩), .pointer (some ⟨b20, 0, none⟩), .pointer (some ⟨b27, 0, none⟩), .pointer (some ⟨k.b, 0, none⟩)]) [var 4 b18 stay, var 87 b20 (Fv.fn 29 [.pointer (some ⟨b4, 0, none⟩)]), var 3 b27 (f : Int), var 26 b4 cut, var 40 k.b (⟨k.xv, ⟨k.Aa, k.ca, s.A⟩, ⟨k.Ar, k.cr, s.Rt⟩⟩ : Palingslaw12Facts), own 29 k.xv.A k.xv.xs.length k.xv.c k.xv.xs, bagG EB 3 (fun j => (k.K j).length) k.n k.mv s.V] (RdCut cut Nc Cf)
      fun r L' => L' = [var 4 b18 stay, var 87 b20 (Fv.fn 29 [.pointer (some ⟨b4, 0, none⟩)]), var 3 b27 (f : Int), var 26 b4 cut, var 40 k.b (⟨k.xv, ⟨k.Aa, k.ca, s.A⟩, ⟨k.Ar, k.cr, s.Rt⟩⟩ : Palingslaw12Facts), own 29 k.xv.A k.xv.xs.length k.xv.c k.xv.xs, bagG EB 3 (fun j => (k.K j).length) k.n k.mv (setS s (cutB Cf) stay f v to sure).V] := by
  refine spec_of Try.func30 rfl rfl fun w0 f0 hR => ?_
  have hvl := hk.vl
  have hkl := hk.K f hf
  have hvb := hk.v f hf
  haveI : RdD (okOf w0 f0) w0 v := ⟨hvw⟩
  refine s_sub (L' := [mp EB 3 (k.mv f) (k.K f).length (s.V f), var 4 b18 stay, var 87 b20 (Fv.fn 29 [.pointer (some ⟨b4, 0, none⟩)]), var 3 b27 (f : Int), var 26 b4 cut, var 40 k.b (⟨k.xv, ⟨k.Aa, k.ca, s.A⟩, ⟨k.Ar, k.cr, s.Rt⟩⟩ : Palingslaw12Facts), own 29 k.xv.A k.xv.xs.length k.xv.c k.xv.xs, bagGX EB 3 (fun j => (k.K j).length) k.n k.mv s.V f]) ((PSub.take [6, 0, 0, 0, 0, 0, 0] rfl).trans ((PSub.bagGout hf).trans (PSub.take [0, 1, 1, 1, 1, 1, 1, 0] rfl))) ?_
  have hput : (∀ u, upd (s.V f) v (some true) u ≠ none → u ∈ k.K f) := fun u hu => by
    unfold upd at hu
    split at hu
    · rename_i e; rw [e]; exact hv
    · exact hs f hf u hu
  have hend : ∀ {w0 : World} {f0 : FP}, ((to && (stay || !cutB Cf f v)) || sure) = true → PSub w0 f0 [mp EB 3 (k.mv f) ((k.K f).length + 1) (upd (s.V f) v (some true)), var 4 b18 stay, var 87 b20 (Fv.fn 29 [.pointer (some ⟨b4, 0, none⟩)]), var 3 b27 (f : Int), var 26 b4 cut, var 40 k.b (⟨k.xv, ⟨k.Aa, k.ca, s.A⟩, ⟨k.Ar, k.cr, s.Rt⟩⟩ : Palingslaw12Facts), own 29 k.xv.A k.xv.xs.length k.xv.c k.xv.xs, bagGX EB 3 (fun j => (k.K j).length) k.n k.mv s.V f] [var 4 b18 stay, var 87 b20 (Fv.fn 29 [.pointer (some ⟨b4, 0, none⟩)]), var 3 b27 (f : Int), var 26 b4 cut, var 40 k.b (⟨k.xv, ⟨k.Aa, k.ca, s.A⟩, ⟨k.Ar, k.cr, s.Rt⟩⟩ : Palingslaw12Facts), own 29 k.xv.A k.xv.xs.length k.xv.c k.xv.xs, bagG EB 3 (fun j => (k.K j).length) k.n k.mv (setS s (cutB Cf) stay f v to sure).V] := fun hc => by
    refine (PSub.mpCut (k.K f) U_3 hput).trans ((PSub.take [0, 6, 0, 0, 0, 0, 0, 0] rfl).trans ((PSub.bagGin (E := EB) (kt := 3) (U := fun j => (k.K j).length) (mi := k.mv) (F := s.V) hf).trans ((PSub.take [1, 1, 1, 1, 1, 1, 0] rfl).trans (PSub.eq ?_))))
    unfold setS
    dsimp only
    rw [if_pos hc]
    rfl
  have hend0 : ∀ {w0 : World} {f0 : FP}, ((to && (stay || !cutB Cf f v)) || sure) = false → PSub w0 f0 [mp EB 3 (k.mv f) (k.K f).length (s.V f), var 4 b18 stay, var 87 b20 (Fv.fn 29 [.pointer (some ⟨b4, 0, none⟩)]), var 3 b27 (f : Int), var 26 b4 cut, var 40 k.b (⟨k.xv, ⟨k.Aa, k.ca, s.A⟩, ⟨k.Ar, k.cr, s.Rt⟩⟩ : Palingslaw12Facts), own 29 k.xv.A k.xv.xs.length k.xv.c k.xv.xs, bagGX EB 3 (fun j => (k.K j).length) k.n k.mv s.V f] [var 4 b18 stay, var 87 b20 (Fv.fn 29 [.pointer (some ⟨b4, 0, none⟩)]), var 3 b27 (f : Int), var 26 b4 cut, var 40 k.b (⟨k.xv, ⟨k.Aa, k.ca, s.A⟩, ⟨k.Ar, k.cr, s.Rt⟩⟩ : Palingslaw12Facts), own 29 k.xv.A k.xv.xs.length k.xv.c k.xv.xs, bagG EB 3 (fun j => (k.K j).length) k.n k.mv (setS s (cutB Cf) stay f v to sure).V] := fun hc => by
    refine (PSub.take [0, 6, 0, 0, 0, 0, 0, 0] rfl).trans ((PSub.bagGback (E := EB) (kt := 3) (U := fun j => (k.K j).length) (mi := k.mv) (F := s.V) hf).trans ((PSub.take [1, 1, 1, 1, 1, 1, 0] rfl).trans (PSub.eq ?_)))
    unfold setS
    dsimp only
    rw [if_neg (by rw [hc]; decide)]
    rfl
  cases to with
  | false =>
    cases sure with
    | false =>
      (repeat' (first | refine s_move ?_ | refine s_nil ?_ | (refine k_C ?_; first | refine s_seq ?_ | refine s_region ?_ | refine s_skip ?_ | refine s_iff rfl ?_) | (refine k_E ?_; refine e_seq ?_) | (refine k_guard ?_; first | refine s_on rfl rfl ?_ | refine s_off rfl rfl rfl rfl ?_ | refine s_offU rfl rfl rfl rfl ?_) | refine s_pick rfl ?_))
      exact e_done0N rfl _ (hend0 rfl) rfl
    | true =>
      (repeat' (first | refine s_move ?_ | refine s_nil ?_ | (refine k_C ?_; first | refine s_seq ?_ | refine s_region ?_ | refine s_ift rfl ?_) | (refine k_E ?_; refine e_seq ?_) | (refine k_load ?_; first | refine s_ldB rfl rfl ?_ | refine s_ld rfl om rfl ?_) | (refine k_fld ?_; refine s_fldB rfl ?_) | (refine k_idx ?_; refine s_idx rfl rfl om ?_) | (refine k_guard ?_; first | refine s_on rfl rfl ?_ | refine s_off rfl rfl rfl rfl ?_ | refine s_offU rfl rfl rfl rfl ?_) | refine s_pick rfl ?_))
      rw [hvb]
      refine s_put (yv := true) rfl rfl rfl hvw trivial (by omega) ?_
      (repeat' (first | refine s_nil ?_))
      exact e_done0N rfl _ (hend rfl) rfl
  | true =>
    cases stay with
    | true =>
      (repeat' (first | refine s_move ?_ | refine s_nil ?_ | (refine k_C ?_; first | refine s_seq ?_ | refine s_region ?_ | refine s_ift rfl ?_) | (refine k_E ?_; refine e_seq ?_) | (refine k_load ?_; first | refine s_ldB rfl rfl ?_ | refine s_ld rfl om rfl ?_) | (refine k_fld ?_; refine s_fldB rfl ?_) | (refine k_idx ?_; refine s_idx rfl rfl om ?_) | (refine k_guard ?_; first | refine s_on rfl rfl ?_ | refine s_off rfl rfl rfl rfl ?_) | refine s_pick rfl ?_))
      rw [hvb]
      refine s_put (yv := true) rfl rfl rfl hvw trivial (by omega) ?_
      (repeat' (first | refine s_nil ?_))
      exact e_done0N rfl _ (hend rfl) rfl
    | false =>
      (repeat' (first | refine s_move ?_ | (refine k_C ?_; first | refine s_seq ?_ | refine s_region ?_) | (refine k_load ?_; refine s_ldB rfl rfl ?_) | (refine k_guard ?_; refine s_on rfl rfl ?_)))
      refine s_callV (L2 := [mp EB 3 (k.mv f) (k.K f).length (s.V f), var 4 b18 false, var 87 b20 (Fv.fn 29 [.pointer (some ⟨b4, 0, none⟩)]), var 3 b27 (f : Int), var 40 k.b (⟨k.xv, ⟨k.Aa, k.ca, s.A⟩, ⟨k.Ar, k.cr, s.Rt⟩⟩ : Palingslaw12Facts), own 29 k.xv.A k.xv.xs.length k.xv.c k.xv.xs, bagGX EB 3 (fun j => (k.K j).length) k.n k.mv s.V f]) [4] (captured := [.pointer (some ⟨b4, 0, none⟩)]) rfl (is_spec b4 cut Nc Cf hCo f v hvw) rfl rfl (fun w1 f1 C => RdCut.lasts cut Nc Cf _ _ _ _ hR (C.st.ok C.fp)) ?_
      rintro r L' ⟨rfl, rfl⟩
      refine so_sub (L' := [mp EB 3 (k.mv f) (k.K f).length (s.V f), var 4 b18 false, var 87 b20 (Fv.fn 29 [.pointer (some ⟨b4, 0, none⟩)]), var 3 b27 (f : Int), var 26 b4 cut, var 40 k.b (⟨k.xv, ⟨k.Aa, k.ca, s.A⟩, ⟨k.Ar, k.cr, s.Rt⟩⟩ : Palingslaw12Facts), own 29 k.xv.A k.xv.xs.length k.xv.c k.xv.xs, bagGX EB 3 (fun j => (k.K j).length) k.n k.mv s.V f]) (PSub.take [1, 1, 1, 1, 0, 0, 0, 0] rfl) ?_
      cases hcb : cutB Cf f v with
      | false =>
        (repeat' (first | refine s_move ?_ | refine s_nil ?_ | (refine k_C ?_; first | refine s_region ?_ | refine s_ift rfl ?_) | (refine k_E ?_; refine e_seq ?_) | (refine k_load ?_; first | refine s_ldB rfl rfl ?_ | refine s_ld rfl om rfl ?_) | (refine k_fld ?_; refine s_fldB rfl ?_) | (refine k_idx ?_; refine s_idx rfl rfl om ?_) | (refine k_guard ?_; first | refine s_on rfl rfl ?_ | refine s_off rfl rfl rfl rfl ?_) | refine s_not rfl ?_ | refine s_pick rfl ?_))
        rw [hvb]
        refine s_put (yv := true) rfl rfl rfl hvw trivial (by omega) ?_
        (repeat' (first | refine s_nil ?_))
        exact e_done0N rfl _ (hend (by rw [hcb]; rfl)) rfl
      | true =>
        cases sure with
        | false =>
          (repeat' (first | refine s_move ?_ | refine s_nil ?_ | (refine k_C ?_; first | refine s_skip ?_ | refine s_iff rfl ?_) | (refine k_E ?_; refine e_seq ?_) | (refine k_guard ?_; refine s_on rfl rfl ?_) | refine s_not rfl ?_ | refine s_pick rfl ?_))
          exact e_done0N rfl _ (hend0 (by rw [hcb]; rfl)) rfl
        | true =>
          (repeat' (first | refine s_move ?_ | refine s_nil ?_ | (refine k_C ?_; first | refine s_region ?_ | refine s_ift rfl ?_) | (refine k_E ?_; refine e_seq ?_) | (refine k_load ?_; first | refine s_ldB rfl rfl ?_ | refine s_ld rfl om rfl ?_) | (refine k_fld ?_; refine s_fldB rfl ?_) | (refine k_idx ?_; refine s_idx rfl rfl om ?_) | (refine k_guard ?_; refine s_on rfl rfl ?_) | refine s_not rfl ?_ | refine s_pick rfl ?_))
          rw [hvb]
          refine s_put (yv := true) rfl rfl rfl hvw trivial (by omega) ?_
          (repeat' (first | refine s_nil ?_))
          exact e_done0N rfl _ (hend (by rw [hcb]; rfl)) rfl
end Go.Proofs.Ytomhieglgfjloaa
