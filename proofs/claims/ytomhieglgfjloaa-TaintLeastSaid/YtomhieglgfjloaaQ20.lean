/- Layer 12: what the law's own facts ask for, request by request, plainly. -/
import Derived.Test.YtomhieglgfjloaaQ9
namespace Go.Proofs.Ytomhieglgfjloaa
set_option linter.unusedVariables false
set_option linter.unusedSimpArgs false
open Go Go.RowKit

/-- A set of things that have labels, and what it is as numbers. -/
abbrev Fb := Tgt → Bool
def bitI (b : Bool) : Int := if b = true then 1 else 0
def numF (M : Fb) : Lb := fun g => bitI (M g)
def onL (L : Lb) : Fb := fun g => decide (1 ≤ L g)
theorem onL_num {M : Fb} : onL (numF M) = M := by
  funext g
  unfold onL numF bitI
  cases M g <;> decide
/-- A request: of what it speaks; when it is, but for what is cut; when it is for sure. -/
structure Fq where
  g : Tgt
  to : Fb → Bool
  sure : Fb → Bool
/-- How the facts are found: the level (at the top one nothing stays out), what is cut, what is turned in memory, what is secret (at the top level: the same). -/
structure Fx where
  stay : Bool
  C : Nat → Int → Bool
  sets : List Bool
  stores : Bool
  sec : Fb → Fb
def cF (x : Fx) (q : Fq) (M : Fb) : Bool := (q.to M && (x.stay || !x.C q.g.2.1 q.g.2.2)) || q.sure (x.sec M)
def MonoF (c : Fb → Bool) : Prop := ∀ M M' : Fb, (∀ g, M g = true → M' g = true) → c M = true → c M' = true
def addF (x : Fx) (M : Fb) (q : Fq) : Fb := fun h => if h = q.g then M q.g || cF x q M else M h
def runF (x : Fx) (qs : List Fq) (M : Fb) : Fb := qs.foldl (addF x) M
def ClosedF (x : Fx) (qs : List Fq) (M : Fb) : Prop := ∀ q ∈ qs, cF x q M = true → M q.g = true
def Fq.rq (x : Fx) (q : Fq) : Rq := ⟨q.g, fun L => bitI (cF x q (onL L))⟩
section
variable {x : Fx}
theorem runF_app {qs qs' : List Fq} {M : Fb} : runF x (qs ++ qs') M = runF x qs' (runF x qs M) := List.foldl_append
theorem bitI_max {a b : Bool} : max (bitI a) (bitI b) = bitI (a || b) := by cases a <;> cases b <;> decide
theorem appR_num {M : Fb} {q : Fq} {t : Bool} : (appR (numF M, t) (q.rq x)).1 = numF (addF x M q) := by
  funext h
  show updT (numF M) q.g (max (numF M q.g) (bitI (cF x q (onL (numF M))))) h = bitI (addF x M q h)
  rw [onL_num]
  unfold updT addF
  split
  · exact bitI_max
  · rfl
theorem runR_num : ∀ {qs : List Fq} {M : Fb} {t : Bool}, (runR (qs.map (Fq.rq x)) (numF M, t)).1 = numF (runF x qs M)
  | [], _, _ => rfl
  | q :: qs, M, t => by
    have h := appR_num (x := x) (M := M) (q := q) (t := t)
    rw [List.map_cons, runR_cons, show appR (numF M, t) (q.rq x) = (numF (addF x M q), (appR (numF M, t) (q.rq x)).2) from Prod.ext h rfl]
    exact runR_num (qs := qs) (M := addF x M q)
theorem closed_num {qs : List Fq} {M : Fb} (h : ClosedR (qs.map (Fq.rq x)) (numF M)) : ClosedF x qs M := fun q hq hc => by
  have h1 : bitI (cF x q (onL (numF M))) ≤ bitI (M q.g) := h (q.rq x) (List.mem_map.2 ⟨q, hq, rfl⟩)
  rw [onL_num, hc] at h1
  cases hM : M q.g with
  | true => rfl
  | false => rw [hM] at h1; exact absurd h1 (by decide)
def roundsF (x : Fx) (qs : List Fq) : Nat → Fb → Fb
  | 0, M => M
  | n + 1, M => roundsF x qs n (runF x qs M)
theorem roundsF_succ {qs : List Fq} : ∀ {n : Nat} {M : Fb}, roundsF x qs (n + 1) M = runF x qs (roundsF x qs n M)
  | 0, _ => rfl
  | n + 1, M => roundsF_succ (qs := qs) (n := n) (M := runF x qs M)
theorem rounds_num {qs : List Fq} : ∀ {n : Nat} {M : Fb}, roundsR (qs.map (Fq.rq x)) n (numF M) = numF (roundsF x qs n M)
  | 0, _ => rfl
  | n + 1, M => by
    show roundsR _ n (runR _ (numF M, false)).1 = _
    rw [runR_num]
    exact rounds_num (n := n) (M := runF x qs M)
theorem addF_le {M M' : Fb} {q : Fq} (hm : MonoF (cF x q)) (hc : cF x q M' = true → M' q.g = true) (h : ∀ g, M g = true → M' g = true) : ∀ g, addF x M q g = true → M' g = true := fun g hg => by
  unfold addF at hg
  split at hg
  · rename_i e
    subst e
    rcases (Bool.or_eq_true _ _).mp hg with h1 | h1
    · exact h _ h1
    · exact hc (hm _ _ h h1)
  · exact h g hg
theorem runF_le {M' : Fb} : ∀ {qs : List Fq} {M : Fb}, (∀ q ∈ qs, MonoF (cF x q)) → ClosedF x qs M' → (∀ g, M g = true → M' g = true) → ∀ g, runF x qs M g = true → M' g = true
  | [], _, _, _, h => h
  | q :: qs, M, hm, hc, h => runF_le (qs := qs) (M := addF x M q) (fun r hr => hm r (by simp [hr])) (fun r hr => hc r (by simp [hr])) (addF_le (hm q (by simp)) (hc q (by simp)) h)
theorem roundsF_le {qs : List Fq} {M' : Fb} (hm : ∀ q ∈ qs, MonoF (cF x q)) (hc : ClosedF x qs M') : ∀ {n : Nat} {M : Fb}, (∀ g, M g = true → M' g = true) → ∀ g, roundsF x qs n M g = true → M' g = true
  | 0, _, h => h
  | n + 1, M, h => roundsF_le hm hc (n := n) (runF_le hm hc h)
theorem roundsF_ge {qs : List Fq} {n : Nat} {M : Fb} (g : Tgt) (h : M g = true) : roundsF x qs n M g = true := by
  have h1 := roundsR_ge (qs := qs.map (Fq.rq x)) (n := n) (L := numF M) g
  rw [rounds_num] at h1
  have h1 : bitI (M g) ≤ bitI (roundsF x qs n M g) := h1
  rw [h] at h1
  cases e : roundsF x qs n M g with
  | true => rfl
  | false => rw [e] at h1; exact absurd h1 (by decide)
/-- As many rounds as there are things that may be added, and one: nothing is added any more. -/
theorem roundsF_closed {qs : List Fq} {T : List Tgt} (hq : ∀ q ∈ qs, q.g ∈ T) {n : Nat} {M : Fb} (hn : T.length < n) : ClosedF x qs (roundsF x qs n M) := by
  apply closed_num
  rw [← rounds_num]
  refine roundsR_closed (T := T) (M := 1) (fun q hq' => ?_) (fun g => ?_) ?_
  · obtain ⟨q0, h0, rfl⟩ := List.mem_map.1 hq'
    refine ⟨hq q0 h0, fun L _ => ?_⟩
    show bitI _ ≤ ((1 : Nat) : Int)
    unfold bitI; split <;> decide
  · show bitI _ ≤ ((1 : Nat) : Int)
    unfold bitI; split <;> decide
  · have := potR_le (T := T) (M := 1) (L := numF M) fun g _ => by show 0 ≤ bitI _; unfold bitI; split <;> decide
    show potR T ((1 : Nat) : Int) (numF M) < n
    omega
end
def noF : Fb → Bool := fun _ => false
def atF (g : Tgt) : Fb → Bool := fun M => M g
def anyF (f : Nat) (xs : List Int) : Fb → Bool := fun M => xs.any fun v => M (0, f, v)
def getF (f : Nat) (i : SsaIns) (my : Bool) : Fb → Bool := fun M => anyF f i.fArgs.xs M || my || M (1, i.fArr.toNat, 0)
def sureF (f : Nat) (i : SsaIns) : Fb → Bool := fun M => anyF f i.fArgs.xs M || M (1, i.fArr.toNat, 0)
def mayF (x : Fx) (i : SsaIns) : Bool := !x.stay && (decide (i.fOp = 5) || x.stores || nth x.sets i.fArr.toNat)
def callF (p : SsaProg) (f : Nat) (i : SsaIns) (n : Nat) : List Fq := (List.range n).map fun k => ⟨(0, i.fFn.toNat, nth (parsF p i.fFn.toNat) k), noF, atF (0, f, nth i.fArgs.xs k)⟩
def fqI (p : SsaProg) (x : Fx) (f : Nat) (i : SsaIns) : List Fq :=
  if i.fOp = 2 then [⟨(0, f, i.fDst), anyF f i.fArgs.xs, anyF f i.fArgs.xs⟩]
  else if i.fOp = 3 ∨ i.fOp = 5 then [⟨(0, f, i.fDst), getF f i (mayF x i), sureF f i⟩]
  else if i.fOp = 4 then [⟨(1, i.fArr.toNat, 0), noF, atF (0, f, nth i.fArgs.xs 0)⟩]
  else if i.fOp = 6 then [⟨(1, i.fArr.toNat, 0), noF, atF (0, f, nth i.fArgs.xs 1)⟩]
  else if i.fOp = 7 then callF p f i (parsF p i.fFn.toNat).length ++ [⟨(0, f, i.fDst), atF (2, i.fFn.toNat, 0), atF (2, i.fFn.toNat, 0)⟩]
  else []
def fwayR (p : SsaProg) (f : Nat) (w : SsaEdge) (n : Nat) : List Fq := (List.range n).map fun k => ⟨(0, f, nth (parsB p f w.fTo.toNat) k), atF (0, f, nth w.fArgs.xs k), atF (0, f, nth w.fArgs.xs k)⟩
def fqW (p : SsaProg) (f : Nat) (w : SsaEdge) : List Fq := fwayR p f w (parsB p f w.fTo.toNat).length
def fqE (f : Nat) (e : SsaEnd) : List Fq := if e.fKind = 3 then [⟨(2, f, 0), noF, atF (0, f, e.fVal)⟩] else []
def fqB (p : SsaProg) (x : Fx) (f : Nat) (b : SsaBlock) : List Fq := b.fIns.xs.flatMap (fqI p x f) ++ b.fEnd.fWays.xs.flatMap (fqW p f) ++ fqE f b.fEnd
def fqF (p : SsaProg) (x : Fx) (f : Nat) (n : Nat) : List Fq := (List.range n).flatMap fun b => if nth (reachB7 (nth p.fFuncs.xs f)) b = true then fqB p x f (nth (nth p.fFuncs.xs f).fBlocks.xs b) else []
def fqP (p : SsaProg) (x : Fx) (n : Nat) : List Fq := (List.range n).flatMap fun f => fqF p x f (nth p.fFuncs.xs f).fBlocks.xs.length
theorem fqF_succ {p : SsaProg} {x : Fx} {f n : Nat} : fqF p x f (n + 1) = fqF p x f n ++ if nth (reachB7 (nth p.fFuncs.xs f)) n = true then fqB p x f (nth (nth p.fFuncs.xs f).fBlocks.xs n) else [] := by
  unfold fqF
  rw [List.range_succ, List.flatMap_append]; simp
theorem fqP_succ {p : SsaProg} {x : Fx} {n : Nat} : fqP p x (n + 1) = fqP p x n ++ fqF p x n (nth p.fFuncs.xs n).fBlocks.xs.length := by
  unfold fqP
  rw [List.range_succ, List.flatMap_append]; simp
/-- Where requests are the same: of the labels, and of the facts. -/
structure Corr (x : Fx) (q : Rq) (r : Fq) : Prop where
  g : q.g = r.g
  two : ∀ L : Lb, (∀ g, 0 ≤ L g ∧ L g ≤ 2) → (2 ≤ q.e L ↔ r.sure (fun g => decide (2 ≤ L g)) = true)
  one : x.stay = false → ∀ L : Lb, (∀ g, 0 ≤ L g ∧ L g ≤ 2) → (∀ g, g.1 ≠ 0 → L g ≠ 1) → (1 ≤ q.e L ↔ ((r.to (fun g => decide (1 ≤ L g)) && !x.C r.g.2.1 r.g.2.2) || r.sure (fun g => decide (2 ≤ L g))) = true)
  ts : x.stay = true → ∀ M, r.to M = true → r.sure M = true
  mt : MonoF r.to
  ms : MonoF r.sure
/-- Two lists of requests: each one has one that is as it. -/
structure Pairs (K : Rq → Fq → Prop) (qs : List Rq) (rs : List Fq) : Prop where
  a : ∀ q ∈ qs, (∀ L, q.e L ≤ 0) ∨ ∃ r ∈ rs, K q r
  b : ∀ r ∈ rs, ∃ q ∈ qs, K q r
section
variable {K : Rq → Fq → Prop}
theorem Pairs.one {q : Rq} {r : Fq} (h : K q r) : Pairs K [q] [r] := ⟨fun q' hq => .inr ⟨r, by simp, by rw [List.mem_singleton] at hq; rw [hq]; exact h⟩, fun r' hr => ⟨q, by simp, by rw [List.mem_singleton] at hr; rw [hr]; exact h⟩⟩
theorem Pairs.nil : Pairs K [] [] := ⟨fun _ h => (nomatch h), fun _ h => (nomatch h)⟩
theorem Pairs.app {qs qs' : List Rq} {rs rs' : List Fq} (h : Pairs K qs rs) (h' : Pairs K qs' rs') : Pairs K (qs ++ qs') (rs ++ rs') := by
  refine ⟨fun q hq => ?_, fun r hr => ?_⟩
  · rcases List.mem_append.1 hq with hq | hq
    · exact (h.a q hq).imp id fun ⟨r, hr, hk⟩ => ⟨r, List.mem_append_left _ hr, hk⟩
    · exact (h'.a q hq).imp id fun ⟨r, hr, hk⟩ => ⟨r, List.mem_append_right _ hr, hk⟩
  · rcases List.mem_append.1 hr with hr | hr
    · obtain ⟨q, hq, hk⟩ := h.b r hr
      exact ⟨q, List.mem_append_left _ hq, hk⟩
    · obtain ⟨q, hq, hk⟩ := h'.b r hr
      exact ⟨q, List.mem_append_right _ hq, hk⟩
theorem Pairs.flat {α : Type} {f : α → List Rq} {f' : α → List Fq} {l : List α} (h : ∀ x ∈ l, Pairs K (f x) (f' x)) : Pairs K (l.flatMap f) (l.flatMap f') := by
  refine ⟨fun q hq => ?_, fun r hr => ?_⟩
  · obtain ⟨x, hx, hq⟩ := List.mem_flatMap.1 hq
    exact ((h x hx).a q hq).imp id fun ⟨r, hr, hk⟩ => ⟨r, List.mem_flatMap.2 ⟨x, hx, hr⟩, hk⟩
  · obtain ⟨x, hx, hr⟩ := List.mem_flatMap.1 hr
    obtain ⟨q, hq, hk⟩ := (h x hx).b r hr
    exact ⟨q, List.mem_flatMap.2 ⟨x, hx, hq⟩, hk⟩
theorem Pairs.map {α : Type} {f : α → Rq} {f' : α → Fq} {l : List α} (h : ∀ x ∈ l, K (f x) (f' x)) : Pairs K (l.map f) (l.map f') := by
  refine ⟨fun q hq => ?_, fun r hr => ?_⟩
  · obtain ⟨x, hx, rfl⟩ := List.mem_map.1 hq
    exact .inr ⟨f' x, List.mem_map.2 ⟨x, hx, rfl⟩, h x hx⟩
  · obtain ⟨x, hx, rfl⟩ := List.mem_map.1 hr
    exact ⟨f x, List.mem_map.2 ⟨x, hx, rfl⟩, h x hx⟩
end
end Go.Proofs.Ytomhieglgfjloaa
