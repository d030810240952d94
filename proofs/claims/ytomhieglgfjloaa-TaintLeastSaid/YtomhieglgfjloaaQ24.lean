/- Layer 12: the law's own facts at the top level, walked. -/
import Derived.Test.YtomhieglgfjloaaQ23
namespace Go.Proofs.Ytomhieglgfjloaa
set_option linter.unusedVariables false
set_option linter.unusedSimpArgs false
open Go Go.RowKit

structure FrS where
  Av : Option Addr
  cv : Nat
  xv : List Mr
  mv : Nat → Nat
  a : Bool
  W : List Bool
theorem fxA {b : Nat} {v : Sl Mr} {Aa : Option Addr} {ca : Nat} {xs ys : List Bool} {r : Sl Bool} (h : ys.length = xs.length) : var 40 b (⟨v, ⟨Aa, ca, xs⟩, r⟩ : Palingslaw12Facts) = var 40 b (⟨v, ⟨Aa, ca, ys⟩, r⟩ : Palingslaw12Facts) := var_congr (by simp only [Enc.enc, h])
theorem fxR {b : Nat} {v : Sl Mr} {Aa : Option Addr} {ca : Nat} {xs ys : List Bool} {r : Sl Bool} (h : ys.length = xs.length) : var 40 b (⟨v, r, ⟨Aa, ca, xs⟩⟩ : Palingslaw12Facts) = var 40 b (⟨v, r, ⟨Aa, ca, ys⟩⟩ : Palingslaw12Facts) := var_congr (by simp only [Enc.enc, h])
theorem PSub.tl {w0 : World} {f0 : FP} {X : HP} {L : List HP} : PSub w0 f0 (X :: L) L := fun w H => H.drop 0
theorem FSt.start (p : SsaProg) {xa : List Bool} (h : ∀ x, x < p.fArrays.xs.length → nth xa x = decide ((nth p.fArrays.xs x).fHold = 2)) (hl : xa.length = p.fArrays.xs.length) {m : Nat} : memF ⟨fun _ _ => none, xa, List.replicate m false⟩ = baseF p := by
  funext g
  obtain ⟨g1, g2, g3⟩ := g
  unfold memF baseF
  dsimp only
  by_cases h0 : g1 = 0
  · subst h0; simp
  · rw [if_neg h0]
    by_cases h3 : g3 = 0
    · rw [if_neg (by simp [h3])]
      by_cases h1 : g1 = 1
      · rw [if_pos h1]
        by_cases hl2 : g2 < p.fArrays.xs.length
        · rw [h g2 hl2]; simp [h1, h3, hl2]
        · rw [nth_out (by omega)]
          exact (decide_eq_false (fun h => hl2 h.2.2.1)).symm
      · rw [if_neg h1]
        refine Eq.trans ?_ (decide_eq_false (fun h => h1 h.1)).symm
        by_cases h2 : g1 = 2
        · rw [if_pos h2]
          exact nth_rep (α := Bool)
        · rw [if_neg h2]
    · rw [if_pos h3]
      exact (decide_eq_false (fun h => h3 h.2.1)).symm
/-- What `from` gives back. -/
def FromR (p : SsaProg) (x : Fx) (r : Value) (L' : List HP) : Prop := ∃ (X : Palingslaw12Facts) (mv : Nat → Nat) (s : FSt), r = .agg (Enc.enc X).toArray ∧ X.fArrays.xs = s.A ∧ X.fRets.xs = s.Rt ∧ X.fVals.xs.length = p.fFuncs.xs.length ∧ (∀ j, j < p.fFuncs.xs.length → (nth X.fVals.xs j).b = some (mv j)) ∧ s.A.length = p.fArrays.xs.length ∧ s.Rt.length = p.fFuncs.xs.length ∧
  memF s = roundsF x (fqP p x p.fFuncs.xs.length) (partsP p + p.fArrays.xs.length + 2) (baseF p) ∧
  L' = [own 29 X.fVals.A X.fVals.xs.length X.fVals.c X.fVals.xs, own 4 X.fArrays.A X.fArrays.xs.length X.fArrays.c X.fArrays.xs, own 4 X.fRets.A X.fRets.xs.length X.fRets.c X.fRets.xs, bagG EB 3 (fun j => (madeAll (nth p.fFuncs.xs j).fBlocks.xs).length) p.fFuncs.xs.length mv s.V]
set_option maxHeartbeats 100000000 in
theorem fromHi_spec (p : SsaProg) (hp : FewPr p) (hG : GoodP p) (cut : Sl Mr) (Nc : Nat → Nat) (Cf : Nat → Int → Option Bool) (hcl : cut.xs.length ≤ 1000) (hCo : ∀ j, cut.xs.length ≤ j → Cf j = fun _ => none) :
    Spec Try.prog 11 [.agg (Enc.enc p).toArray, .slice cut.A cut.xs.length cut.c, .int .i64 2] [] (fun ok w => RdD ok w p ∧ RdCut cut Nc Cf ok w) fun r L' => FromR p (xHi Cf) r L' := by
  refine spec_of Try.func11 rfl rfl fun w0 f0 hR => ?_
  obtain ⟨hRp, hRC⟩ := hR
  have hpa := hp.a
  have hpf := hp.f
  (repeat' (first | refine s_nil ?_ | (refine k_C ?_; first | refine s_seq ?_ | refine s_region ?_) | (refine k_E ?_; refine e_seq ?_) | (refine s_alloc ?_; intro b) | (refine s_box _ rfl ?_; intro b)))
  obtain ⟨b6, rfl⟩ : ∃ q, q = b := ⟨_, rfl⟩
  obtain ⟨b4, rfl⟩ : ∃ q, q = b := ⟨_, rfl⟩
  obtain ⟨b3, rfl⟩ : ∃ q, q = b := ⟨_, rfl⟩
  refine s_cutI (σ := Nat × Nat × Nat) (fun q => [(2, .int .i64 2), (3, .pointer (some ⟨b3, 0, none⟩)), (4, .pointer (some ⟨b4, 0, none⟩)), (6, .pointer (some ⟨b6, 0, none⟩)), (7, .pointer (some ⟨q.2.2, 0, none⟩))])
    (fun q => [own 4 (some ⟨q.1, 0, none⟩) p.fArrays.xs.length p.fArrays.xs.length (List.replicate p.fArrays.xs.length false), own 4 (some ⟨q.2.1, 0, none⟩) p.fFuncs.xs.length p.fFuncs.xs.length (List.replicate p.fFuncs.xs.length false), var 40 q.2.2 (⟨Enc.dflt, ⟨some ⟨q.1, 0, none⟩, p.fArrays.xs.length, (List.replicate p.fArrays.xs.length false)⟩, ⟨some ⟨q.2.1, 0, none⟩, p.fFuncs.xs.length, (List.replicate p.fFuncs.xs.length false)⟩⟩ : Palingslaw12Facts), var 40 b6 (Enc.dflt : Palingslaw12Facts), var 26 b4 cut, var 25 b3 p]) (fun _ => True) ?_ ?_
  ·
    --{
    refine s_draw [var 25 b3 p] 10 foI (by kernel_rfl) (PSub.take [2] rfl) fun hD => ?_
    refine d_rd (fuel := 5) #[true, true, true, false, true, true, true, false, false, false, false] [0, 1, 2, 4, 5, 6] ?F1_1 hD (by kernel_rfl) ?hr1_1 ?hn1_1
    case hr1_1 =>
      change sO _ _ _ _ _ _ (_ :: _ :: _ :: _ :: _ :: _ :: []) _ _ _
      (repeat' (first | refine s_nil ?_ | (refine k_load ?_; refine s_ldB rfl rfl ?_) | (refine k_fld ?_; refine s_fldB rfl ?_) | (refine k_call ?_; refine s_len rfl ?_)))
      exact e_F
    refine d_all (fuel := 4) [3, 7, 9] (by kernel_rfl) ⟨?_, ?_, ?_, trivial⟩
    · change sO _ _ _ _ _ _ (_ :: []) _ _ _
      (repeat' (first | refine s_nil ?_ | (refine s_make rfl rfl om ?_; intro b)))
      rename Nat => p3
      refine e_sd (PSub.take [3] rfl) ?_
      refine d_all (fuel := 3) [7, 9] (by kernel_rfl) ⟨?_, ?_, trivial⟩
      · change sO _ _ _ _ _ _ (_ :: []) _ _ _
        (repeat' (first | refine s_nil ?_ | (refine s_make rfl rfl om ?_; intro b)))
        rename Nat => p7
        refine e_sd (PSub.take [4] rfl) ?_
        refine d_rd (fuel := 2) #[true, true, true, true, true, true, true, true, true, false, false] [8] ?F1_2 hD (by kernel_rfl) ?hr1_2 ?hn1_2
        case hr1_2 =>
          change sO _ _ _ _ _ _ (_ :: []) _ _ _
          skip
          refine s_bld (⟨Enc.dflt, ⟨some ⟨p3, 0, none⟩, p.fArrays.xs.length, (List.replicate p.fArrays.xs.length false)⟩, ⟨some ⟨p7, 0, none⟩, p.fFuncs.xs.length, (List.replicate p.fFuncs.xs.length false)⟩⟩ : Palingslaw12Facts) (by show _ = some [Value.slice none 0 0, Value.slice _ (List.replicate _ _).length _, Value.slice _ (List.replicate _ _).length _].toArray; rw [List.length_replicate, List.length_replicate]; kernel_rfl) ?_
          (repeat' (first | refine s_nil ?_))
          exact e_F
        refine d_all (fuel := 1) [9] (by kernel_rfl) ⟨?_, trivial⟩
        change sO _ _ _ _ _ _ (_ :: []) _ _ _
        (repeat' (first | refine s_nil ?_ | (refine s_alloc ?_; intro b)))
        rename Nat => p9
        refine e_sd (PSub.take [5] rfl) ?_
        refine d_end hD (by kernel_rfl) rfl ?_
        change sO _ _ _ _ _ _ (_ :: []) _ _ _
        (repeat' (first | refine s_nil ?_ | (refine k_store ?_; refine s_stW _ rfl rfl ?_)))
        exact e_ct (p3, p7, p9) (by repeat (first | exact trivial | refine ⟨rfl, ?_⟩)) trivial (PSub.take [2, 1, 0, 0, 0, 0] rfl)
      · change sO _ _ _ _ _ _ (_ :: []) _ _ _
        (repeat' (first | refine s_nil ?_ | (refine s_alloc ?_; intro b)))
        rename Nat => p9
        refine e_sd (PSub.take [4] rfl) ?_
        refine d_all (fuel := 2) [7] (by kernel_rfl) ⟨?_, trivial⟩
        change sO _ _ _ _ _ _ (_ :: []) _ _ _
        (repeat' (first | refine s_nil ?_ | (refine s_make rfl rfl om ?_; intro b)))
        rename Nat => p7
        refine e_sd (PSub.take [5] rfl) ?_
        refine d_rd (fuel := 1) #[true, true, true, true, true, true, true, true, true, true, false] [8] ?F1_3 hD (by kernel_rfl) ?hr1_3 ?hn1_3
        case hr1_3 =>
          change sO _ _ _ _ _ _ (_ :: []) _ _ _
          skip
          refine s_bld (⟨Enc.dflt, ⟨some ⟨p3, 0, none⟩, p.fArrays.xs.length, (List.replicate p.fArrays.xs.length false)⟩, ⟨some ⟨p7, 0, none⟩, p.fFuncs.xs.length, (List.replicate p.fFuncs.xs.length false)⟩⟩ : Palingslaw12Facts) (by show _ = some [Value.slice none 0 0, Value.slice _ (List.replicate _ _).length _, Value.slice _ (List.replicate _ _).length _].toArray; rw [List.length_replicate, List.length_replicate]; kernel_rfl) ?_
          (repeat' (first | refine s_nil ?_))
          exact e_F
        refine d_end hD (by kernel_rfl) rfl ?_
        change sO _ _ _ _ _ _ (_ :: []) _ _ _
        (repeat' (first | refine s_nil ?_ | (refine k_store ?_; refine s_stW _ rfl rfl ?_)))
        exact e_ct (p3, p7, p9) (by repeat (first | exact trivial | refine ⟨rfl, ?_⟩)) trivial (PSub.take [2, 0, 0, 0, 0, 0] rfl)
    · change sO _ _ _ _ _ _ (_ :: []) _ _ _
      (repeat' (first | refine s_nil ?_ | (refine s_make rfl rfl om ?_; intro b)))
      rename Nat => p7
      refine e_sd (PSub.take [3] rfl) ?_
      refine d_all (fuel := 3) [3, 9] (by kernel_rfl) ⟨?_, ?_, trivial⟩
      · change sO _ _ _ _ _ _ (_ :: []) _ _ _
        (repeat' (first | refine s_nil ?_ | (refine s_make rfl rfl om ?_; intro b)))
        rename Nat => p3
        refine e_sd (PSub.take [4] rfl) ?_
        refine d_rd (fuel := 2) #[true, true, true, true, true, true, true, true, true, false, false] [8] ?F1_4 hD (by kernel_rfl) ?hr1_4 ?hn1_4
        case hr1_4 =>
          change sO _ _ _ _ _ _ (_ :: []) _ _ _
          skip
          refine s_bld (⟨Enc.dflt, ⟨some ⟨p3, 0, none⟩, p.fArrays.xs.length, (List.replicate p.fArrays.xs.length false)⟩, ⟨some ⟨p7, 0, none⟩, p.fFuncs.xs.length, (List.replicate p.fFuncs.xs.length false)⟩⟩ : Palingslaw12Facts) (by show _ = some [Value.slice none 0 0, Value.slice _ (List.replicate _ _).length _, Value.slice _ (List.replicate _ _).length _].toArray; rw [List.length_replicate, List.length_replicate]; kernel_rfl) ?_
          (repeat' (first | refine s_nil ?_))
          exact e_F
        refine d_all (fuel := 1) [9] (by kernel_rfl) ⟨?_, trivial⟩
        change sO _ _ _ _ _ _ (_ :: []) _ _ _
        (repeat' (first | refine s_nil ?_ | (refine s_alloc ?_; intro b)))
        rename Nat => p9
        refine e_sd (PSub.take [5] rfl) ?_
        refine d_end hD (by kernel_rfl) rfl ?_
        change sO _ _ _ _ _ _ (_ :: []) _ _ _
        (repeat' (first | refine s_nil ?_ | (refine k_store ?_; refine s_stW _ rfl rfl ?_)))
        exact e_ct (p3, p7, p9) (by repeat (first | exact trivial | refine ⟨rfl, ?_⟩)) trivial (PSub.take [1, 1, 0, 0, 0, 0] rfl)
      · change sO _ _ _ _ _ _ (_ :: []) _ _ _
        (repeat' (first | refine s_nil ?_ | (refine s_alloc ?_; intro b)))
        rename Nat => p9
        refine e_sd (PSub.take [4] rfl) ?_
        refine d_all (fuel := 2) [3] (by kernel_rfl) ⟨?_, trivial⟩
        change sO _ _ _ _ _ _ (_ :: []) _ _ _
        (repeat' (first | refine s_nil ?_ | (refine s_make rfl rfl om ?_; intro b)))
        rename Nat => p3
        refine e_sd (PSub.take [5] rfl) ?_
        refine d_rd (fuel := 1) #[true, true, true, true, true, true, true, true, true, true, false] [8] ?F1_5 hD (by kernel_rfl) ?hr1_5 ?hn1_5
        case hr1_5 =>
          change sO _ _ _ _ _ _ (_ :: []) _ _ _
          skip
          refine s_bld (⟨Enc.dflt, ⟨some ⟨p3, 0, none⟩, p.fArrays.xs.length, (List.replicate p.fArrays.xs.length false)⟩, ⟨some ⟨p7, 0, none⟩, p.fFuncs.xs.length, (List.replicate p.fFuncs.xs.length false)⟩⟩ : Palingslaw12Facts) (by show _ = some [Value.slice none 0 0, Value.slice _ (List.replicate _ _).length _, Value.slice _ (List.replicate _ _).length _].toArray; rw [List.length_replicate, List.length_replicate]; kernel_rfl) ?_
          (repeat' (first | refine s_nil ?_))
          exact e_F
        refine d_end hD (by kernel_rfl) rfl ?_
        change sO _ _ _ _ _ _ (_ :: []) _ _ _
        (repeat' (first | refine s_nil ?_ | (refine k_store ?_; refine s_stW _ rfl rfl ?_)))
        exact e_ct (p3, p7, p9) (by repeat (first | exact trivial | refine ⟨rfl, ?_⟩)) trivial (PSub.take [0, 1, 0, 0, 0, 0] rfl)
    · change sO _ _ _ _ _ _ (_ :: []) _ _ _
      (repeat' (first | refine s_nil ?_ | (refine s_alloc ?_; intro b)))
      rename Nat => p9
      refine e_sd (PSub.take [3] rfl) ?_
      refine d_all (fuel := 3) [3, 7] (by kernel_rfl) ⟨?_, ?_, trivial⟩
      · change sO _ _ _ _ _ _ (_ :: []) _ _ _
        (repeat' (first | refine s_nil ?_ | (refine s_make rfl rfl om ?_; intro b)))
        rename Nat => p3
        refine e_sd (PSub.take [4] rfl) ?_
        refine d_all (fuel := 2) [7] (by kernel_rfl) ⟨?_, trivial⟩
        change sO _ _ _ _ _ _ (_ :: []) _ _ _
        (repeat' (first | refine s_nil ?_ | (refine s_make rfl rfl om ?_; intro b)))
        rename Nat => p7
        refine e_sd (PSub.take [5] rfl) ?_
        refine d_rd (fuel := 1) #[true, true, true, true, true, true, true, true, true, true, false] [8] ?F1_6 hD (by kernel_rfl) ?hr1_6 ?hn1_6
        case hr1_6 =>
          change sO _ _ _ _ _ _ (_ :: []) _ _ _
          skip
          refine s_bld (⟨Enc.dflt, ⟨some ⟨p3, 0, none⟩, p.fArrays.xs.length, (List.replicate p.fArrays.xs.length false)⟩, ⟨some ⟨p7, 0, none⟩, p.fFuncs.xs.length, (List.replicate p.fFuncs.xs.length false)⟩⟩ : Palingslaw12Facts) (by show _ = some [Value.slice none 0 0, Value.slice _ (List.replicate _ _).length _, Value.slice _ (List.replicate _ _).length _].toArray; rw [List.length_replicate, List.length_replicate]; kernel_rfl) ?_
          (repeat' (first | refine s_nil ?_))
          exact e_F
        refine d_end hD (by kernel_rfl) rfl ?_
        change sO _ _ _ _ _ _ (_ :: []) _ _ _
        (repeat' (first | refine s_nil ?_ | (refine k_store ?_; refine s_stW _ rfl rfl ?_)))
        exact e_ct (p3, p7, p9) (by repeat (first | exact trivial | refine ⟨rfl, ?_⟩)) trivial (PSub.take [1, 0, 0, 0, 0, 0] rfl)
      · change sO _ _ _ _ _ _ (_ :: []) _ _ _
        (repeat' (first | refine s_nil ?_ | (refine s_make rfl rfl om ?_; intro b)))
        rename Nat => p7
        refine e_sd (PSub.take [4] rfl) ?_
        refine d_all (fuel := 2) [3] (by kernel_rfl) ⟨?_, trivial⟩
        change sO _ _ _ _ _ _ (_ :: []) _ _ _
        (repeat' (first | refine s_nil ?_ | (refine s_make rfl rfl om ?_; intro b)))
        rename Nat => p3
        refine e_sd (PSub.take [5] rfl) ?_
        refine d_rd (fuel := 1) #[true, true, true, true, true, true, true, true, true, true, false] [8] ?F1_7 hD (by kernel_rfl) ?hr1_7 ?hn1_7
        case hr1_7 =>
          change sO _ _ _ _ _ _ (_ :: []) _ _ _
          skip
          refine s_bld (⟨Enc.dflt, ⟨some ⟨p3, 0, none⟩, p.fArrays.xs.length, (List.replicate p.fArrays.xs.length false)⟩, ⟨some ⟨p7, 0, none⟩, p.fFuncs.xs.length, (List.replicate p.fFuncs.xs.length false)⟩⟩ : Palingslaw12Facts) (by show _ = some [Value.slice none 0 0, Value.slice _ (List.replicate _ _).length _, Value.slice _ (List.replicate _ _).length _].toArray; rw [List.length_replicate, List.length_replicate]; kernel_rfl) ?_
          (repeat' (first | refine s_nil ?_))
          exact e_F
        refine d_end hD (by kernel_rfl) rfl ?_
        change sO _ _ _ _ _ _ (_ :: []) _ _ _
        (repeat' (first | refine s_nil ?_ | (refine k_store ?_; refine s_stW _ rfl rfl ?_)))
        exact e_ct (p3, p7, p9) (by repeat (first | exact trivial | refine ⟨rfl, ?_⟩)) trivial (PSub.take [0, 0, 0, 0, 0, 0] rfl)
    --}
  rintro g0 ⟨bA, bR, b7⟩ _
  (repeat' (first | refine s_move ?_ | refine s_assign ?_ | refine s_nil ?_ | (refine k_C ?_; first | refine s_seq ?_ | refine s_region ?_ | refine s_block ?_) | (refine k_E ?_; refine e_seq ?_) | (refine k_load ?_; refine s_ldB rfl rfl ?_) | (refine k_fld ?_; refine s_fldB rfl ?_) | (refine k_call ?_; refine s_len rfl ?_) | (refine s_make rfl rfl om ?_; intro b)))
  obtain ⟨b9, rfl⟩ : ∃ q, q = b := ⟨_, rfl⟩
  refine s_loop (σ := Nat × FrS) (fun q => [(2, .int .i64 2), (3, .pointer (some ⟨b3, 0, none⟩)), (4, .pointer (some ⟨b4, 0, none⟩)), (6, .pointer (some ⟨b6, 0, none⟩)), (7, .pointer (some ⟨b7, 0, none⟩)), (9, .slice (some ⟨b9, 0, none⟩) p.fArrays.xs.length p.fArrays.xs.length), (60, .slice p.fFuncs.A p.fFuncs.xs.length p.fFuncs.c), (61, .int .i64 p.fFuncs.xs.length), (62, .int .i64 (q.1 : Nat)), (8, .bool q.2.a)])
    (fun q => [var 40 b7 (⟨⟨q.2.Av, q.2.cv, q.2.xv⟩, ⟨some ⟨bA, 0, none⟩, p.fArrays.xs.length, (List.replicate p.fArrays.xs.length false)⟩, ⟨some ⟨bR, 0, none⟩, p.fFuncs.xs.length, (List.replicate p.fFuncs.xs.length false)⟩⟩ : Palingslaw12Facts), own 29 q.2.Av q.2.xv.length q.2.cv q.2.xv, bagG EB 3 (fun j => (madeAll (nth p.fFuncs.xs j).fBlocks.xs).length) q.1 q.2.mv (fun _ _ => none), own 4 (some ⟨b9, 0, none⟩) p.fArrays.xs.length p.fArrays.xs.length q.2.W, own 4 (some ⟨bA, 0, none⟩) p.fArrays.xs.length p.fArrays.xs.length (List.replicate p.fArrays.xs.length false), own 4 (some ⟨bR, 0, none⟩) p.fFuncs.xs.length p.fFuncs.xs.length (List.replicate p.fFuncs.xs.length false), var 40 b6 (Enc.dflt : Palingslaw12Facts), var 26 b4 cut, var 25 b3 p])
    (fun q => q.1 ≤ p.fFuncs.xs.length ∧ q.2.xv.length = q.1 ∧ (∀ j, j < q.1 → (nth q.2.xv j).b = some (q.2.mv j)) ∧ WPre ((p.fFuncs.xs.take q.1).flatMap insF) p.fArrays.xs.length q.2.a q.2.W) (fun q => p.fFuncs.xs.length - q.1)
    (0, ⟨none, 0, [], fun _ => 0, false, (List.replicate p.fArrays.xs.length false)⟩) (by repeat (first | exact trivial | refine ⟨rfl, ?_⟩)) ⟨Nat.zero_le _, rfl, fun j hj => absurd hj (Nat.not_lt_zero j), rfl, List.length_replicate, fun q hq => nth_rep (α := Bool)⟩
    ((PSub.bagG0 (E := EB) (kt := 3) (U := (fun j => (madeAll (nth p.fFuncs.xs j).fBlocks.xs).length)) (mi := fun _ => 0) (F := (fun _ _ => none))).trans ((PSub.nilOwn (α := Mr) 29).trans (PSub.take [5, 0, 0, 0, 0, 0, 0, 0, 0] rfl))) ?_
  rintro g1 ⟨i, S⟩ ⟨hi, hvl, hvb, hW⟩
  dsimp only at hi hvl hvb hW ⊢
  have hWl := hW.l
  (repeat' (first | refine s_nil ?_ | (refine k_C ?_; first | refine s_seq ?_ | refine s_region ?_) | (refine k_E ?_; refine e_seq ?_) | (refine k_bin ?_; refine s_lss rfl rfl ?_)))
  (first | (refine k_C ?_; (refine s_ifd rfl ?_ ?_ <;> intro hc <;> try (exfalso; omega))))
  ·
    --{
    have hil : i < p.fFuncs.xs.length := by omega
    have hfb := (hp.k i hil).b
    (repeat' (first | refine s_nil ?_ | (refine k_C ?_; first | refine s_seq ?_ | refine s_region ?_ | refine s_skip ?_ | refine s_block ?_) | (refine k_E ?_; refine e_seq ?_) | (refine k_load ?_; first | refine s_ldB rfl rfl ?_ | refine s_ldSA rfl rfl om rfl ?_) | (refine k_fld ?_; refine s_fldB rfl ?_) | (refine k_idx ?_; refine s_idxS rfl rfl om ?_) | (refine k_store ?_; refine s_stW _ rfl rfl ?_) | (refine s_alloc ?_; intro b) | (refine s_app1 _ (fun _ => rfl) rfl om ?_; intro v A c) | (refine s_mkmapB ?_; intro b)))
    obtain ⟨bm, rfl⟩ : ∃ q, q = b := ⟨_, rfl⟩
    obtain ⟨b11, rfl⟩ : ∃ q, q = b := ⟨_, rfl⟩
    obtain ⟨A1, rfl⟩ : ∃ q, q = A := ⟨_, rfl⟩
    obtain ⟨c1, rfl⟩ : ∃ q, q = c := ⟨_, rfl⟩
    refine s_stB (⟨⟨A1, c1, S.xv ++ [(⟨some bm⟩ : Mr)]⟩, ⟨some ⟨bA, 0, none⟩, p.fArrays.xs.length, (List.replicate p.fArrays.xs.length false)⟩, ⟨some ⟨bR, 0, none⟩, p.fFuncs.xs.length, (List.replicate p.fFuncs.xs.length false)⟩⟩ : Palingslaw12Facts) rfl rfl (by simp only [Enc.enc, List.length_append]; rfl) (by decide) ?_
    (repeat' (first | refine s_move ?_ | refine s_nil ?_ | (refine k_C ?_; first | refine s_seq ?_ | refine s_region ?_ | refine s_block ?_) | (refine k_E ?_; refine e_seq ?_) | (refine k_load ?_; refine s_ldB rfl rfl ?_) | (refine k_fld ?_; refine s_fldB rfl ?_) | (refine k_call ?_; refine s_len rfl ?_)))
    refine s_loop (σ := Nat × Bool × List Bool) (fun q => [(2, .int .i64 2), (3, .pointer (some ⟨b3, 0, none⟩)), (4, .pointer (some ⟨b4, 0, none⟩)), (6, .pointer (some ⟨b6, 0, none⟩)), (7, .pointer (some ⟨b7, 0, none⟩)), (9, .slice (some ⟨b9, 0, none⟩) p.fArrays.xs.length p.fArrays.xs.length), (60, .slice p.fFuncs.A p.fFuncs.xs.length p.fFuncs.c), (61, .int .i64 p.fFuncs.xs.length), (62, .int .i64 (i : Nat)), (73, .slice (nth p.fFuncs.xs i).fBlocks.A (nth p.fFuncs.xs i).fBlocks.xs.length (nth p.fFuncs.xs i).fBlocks.c), (74, .int .i64 (nth p.fFuncs.xs i).fBlocks.xs.length), (75, .int .i64 (q.1 : Nat)), (8, .bool q.2.1)]) (fun q => [own 4 (some ⟨b9, 0, none⟩) p.fArrays.xs.length p.fArrays.xs.length q.2.2, var 40 b7 (⟨⟨(⟨A1, c1, S.xv ++ [(⟨some bm⟩ : Mr)], updB S.mv i bm, false, []⟩ : FrS).Av, (⟨A1, c1, S.xv ++ [(⟨some bm⟩ : Mr)], updB S.mv i bm, false, []⟩ : FrS).cv, (⟨A1, c1, S.xv ++ [(⟨some bm⟩ : Mr)], updB S.mv i bm, false, []⟩ : FrS).xv⟩, ⟨some ⟨bA, 0, none⟩, p.fArrays.xs.length, (List.replicate p.fArrays.xs.length false)⟩, ⟨some ⟨bR, 0, none⟩, p.fFuncs.xs.length, (List.replicate p.fFuncs.xs.length false)⟩⟩ : Palingslaw12Facts), own 29 A1 (S.xv ++ [(⟨some bm⟩ : Mr)]).length c1 (S.xv ++ [(⟨some bm⟩ : Mr)]), bagG EB 3 (fun j => (madeAll (nth p.fFuncs.xs j).fBlocks.xs).length) (i + 1) (updB S.mv i bm) (fun _ _ => none), own 4 (some ⟨bA, 0, none⟩) p.fArrays.xs.length p.fArrays.xs.length (List.replicate p.fArrays.xs.length false), own 4 (some ⟨bR, 0, none⟩) p.fFuncs.xs.length p.fFuncs.xs.length (List.replicate p.fFuncs.xs.length false), var 40 b6 (Enc.dflt : Palingslaw12Facts), var 26 b4 cut, var 25 b3 p])
      (fun q => q.1 ≤ (nth p.fFuncs.xs i).fBlocks.xs.length ∧ WPre ((p.fFuncs.xs.take i).flatMap insF ++ ((nth p.fFuncs.xs i).fBlocks.xs.take q.1).flatMap fun b => b.fIns.xs) p.fArrays.xs.length q.2.1 q.2.2) (fun q => (nth p.fFuncs.xs i).fBlocks.xs.length - q.1) (0, S.a, S.W) (by repeat (first | exact trivial | refine ⟨rfl, ?_⟩)) ⟨Nat.zero_le _, by simpa using hW⟩
      ((PSub.mpCut (madeAll (nth p.fFuncs.xs i).fBlocks.xs) U_3 fun k hk => absurd rfl hk).trans ((PSub.take [0, 3, 1, 1, 1, 1, 1, 1, 1, 1] rfl).trans ((PSub.bagGnew (E := EB) (kt := 3) (U := (fun j => (madeAll (nth p.fFuncs.xs j).fBlocks.xs).length)) (k := i) (mi := S.mv) (F := (fun _ _ => none)) (G := fun _ => none)).trans ((PSub.take [3, 1, 1, 0, 0, 0, 0, 0, 0] rfl).trans (PSub.eq (by
        rw [show updB (fun (_ : Nat) (_ : Int) => (none : Option Bool)) i (fun _ => none) = fun _ _ => none from updB_self (F := fun (_ : Nat) (_ : Int) => (none : Option Bool))]
        simp only [List.length_append]
        rfl)))))) ?_
    clear hW hWl
    rintro g2 ⟨j, a, W⟩ ⟨hj, hW⟩
    dsimp only at hj hW ⊢
    have hWl := hW.l
    (repeat' (first | refine s_nil ?_ | (refine k_C ?_; first | refine s_seq ?_ | refine s_region ?_) | (refine k_E ?_; refine e_seq ?_) | (refine k_bin ?_; refine s_lss rfl rfl ?_)))
    (first | (refine k_C ?_; (refine s_ifd rfl ?_ ?_ <;> intro hc <;> try (exfalso; omega))))
    rotate_left
    · have hjE : j = (nth p.fFuncs.xs i).fBlocks.xs.length := by omega
      subst hjE
      rw [List.take_length] at hW
      (repeat' (first | refine s_move ?_ | refine s_nil ?_ | (refine k_C ?_; first | refine s_region ?_ | refine s_exit ?_) | (refine k_E ?_; first | refine e_seq ?_ | refine e_seq_exit ?_ | refine e_bk_exit ?_ | refine e_bk ?_ | refine e_lp_exit ?_) | (refine k_bin ?_; refine s_add1 rfl rfl om ?_)))
      exact e_lp (i + 1, ⟨A1, c1, S.xv ++ [(⟨some bm⟩ : Mr)], updB S.mv i bm, a, W⟩) (by repeat (first | exact trivial | refine ⟨rfl, ?_⟩)) ⟨by show i + 1 ≤ _; omega, by show (S.xv ++ [_]).length = i + 1; rw [List.length_append, hvl]; rfl, fun j hj => by
        show (nth (S.xv ++ [(⟨some bm⟩ : Mr)]) j).b = some (updB S.mv i bm j)
        rw [nth_app]
        by_cases e : j < i
        · rw [if_pos (by omega), updB_ne (by omega)]; exact hvb j e
        · obtain rfl : j = i := by have : j < i + 1 := hj; omega
          rw [if_neg (by omega), hvl, Nat.sub_self, updB_same]; rfl, by show WPre ((p.fFuncs.xs.take (i + 1)).flatMap insF) _ _ _; rw [flat_takeN hil]; exact hW⟩ (by show _ - _ < _ - _; omega) (PSub.take [1, 1, 1, 0, 0, 0, 0, 0, 0] rfl)
    have hjl : j < (nth p.fFuncs.xs i).fBlocks.xs.length := by omega
    have hbi := ((hp.k i hil).k j hjl).i
    (repeat' (first | refine s_move ?_ | refine s_nil ?_ | (refine k_C ?_; first | refine s_seq ?_ | refine s_region ?_ | refine s_skip ?_ | refine s_block ?_) | (refine k_E ?_; refine e_seq ?_) | (refine k_load ?_; first | refine s_ldB rfl rfl ?_ | refine s_ldSA rfl rfl om rfl ?_) | (refine k_fld ?_; refine s_fldB rfl ?_) | (refine k_idx ?_; refine s_idxS rfl rfl om ?_) | (refine k_store ?_; refine s_stW _ rfl rfl ?_) | (refine k_call ?_; refine s_len rfl ?_) | (refine s_alloc ?_; intro b)))
    obtain ⟨b13, rfl⟩ : ∃ q, q = b := ⟨_, rfl⟩
    refine s_loop (σ := Nat × Bool × List Bool) (fun q => [(2, .int .i64 2), (3, .pointer (some ⟨b3, 0, none⟩)), (4, .pointer (some ⟨b4, 0, none⟩)), (6, .pointer (some ⟨b6, 0, none⟩)), (7, .pointer (some ⟨b7, 0, none⟩)), (9, .slice (some ⟨b9, 0, none⟩) p.fArrays.xs.length p.fArrays.xs.length), (60, .slice p.fFuncs.A p.fFuncs.xs.length p.fFuncs.c), (61, .int .i64 p.fFuncs.xs.length), (62, .int .i64 (i : Nat)), (73, .slice (nth p.fFuncs.xs i).fBlocks.A (nth p.fFuncs.xs i).fBlocks.xs.length (nth p.fFuncs.xs i).fBlocks.c), (74, .int .i64 (nth p.fFuncs.xs i).fBlocks.xs.length), (75, .int .i64 (j : Nat)), (80, .slice (nth (nth p.fFuncs.xs i).fBlocks.xs j).fIns.A (nth (nth p.fFuncs.xs i).fBlocks.xs j).fIns.xs.length (nth (nth p.fFuncs.xs i).fBlocks.xs j).fIns.c), (81, .int .i64 (nth (nth p.fFuncs.xs i).fBlocks.xs j).fIns.xs.length), (82, .int .i64 (q.1 : Nat)), (8, .bool q.2.1)]) (fun q => [own 4 (some ⟨b9, 0, none⟩) p.fArrays.xs.length p.fArrays.xs.length q.2.2, var 40 b7 (⟨⟨(⟨A1, c1, S.xv ++ [(⟨some bm⟩ : Mr)], updB S.mv i bm, false, []⟩ : FrS).Av, (⟨A1, c1, S.xv ++ [(⟨some bm⟩ : Mr)], updB S.mv i bm, false, []⟩ : FrS).cv, (⟨A1, c1, S.xv ++ [(⟨some bm⟩ : Mr)], updB S.mv i bm, false, []⟩ : FrS).xv⟩, ⟨some ⟨bA, 0, none⟩, p.fArrays.xs.length, (List.replicate p.fArrays.xs.length false)⟩, ⟨some ⟨bR, 0, none⟩, p.fFuncs.xs.length, (List.replicate p.fFuncs.xs.length false)⟩⟩ : Palingslaw12Facts), own 29 A1 (S.xv ++ [(⟨some bm⟩ : Mr)]).length c1 (S.xv ++ [(⟨some bm⟩ : Mr)]), bagG EB 3 (fun j => (madeAll (nth p.fFuncs.xs j).fBlocks.xs).length) (i + 1) (updB S.mv i bm) (fun _ _ => none), own 4 (some ⟨bA, 0, none⟩) p.fArrays.xs.length p.fArrays.xs.length (List.replicate p.fArrays.xs.length false), own 4 (some ⟨bR, 0, none⟩) p.fFuncs.xs.length p.fFuncs.xs.length (List.replicate p.fFuncs.xs.length false), var 40 b6 (Enc.dflt : Palingslaw12Facts), var 26 b4 cut, var 25 b3 p])
      (fun q => q.1 ≤ (nth (nth p.fFuncs.xs i).fBlocks.xs j).fIns.xs.length ∧ WPre (((p.fFuncs.xs.take i).flatMap insF ++ ((nth p.fFuncs.xs i).fBlocks.xs.take j).flatMap fun b => b.fIns.xs) ++ (nth (nth p.fFuncs.xs i).fBlocks.xs j).fIns.xs.take q.1) p.fArrays.xs.length q.2.1 q.2.2) (fun q => (nth (nth p.fFuncs.xs i).fBlocks.xs j).fIns.xs.length - q.1) (0, a, W) (by repeat (first | exact trivial | refine ⟨rfl, ?_⟩)) ⟨Nat.zero_le _, by simpa using hW⟩ (PSub.take [1, 1, 1, 1, 1, 1, 1, 1, 1] (by kernel_rfl)) ?_
    clear hW hWl
    rintro g3 ⟨m, a, W⟩ ⟨hm, hW⟩
    dsimp only at hm hW ⊢
    have hWl := hW.l
    (repeat' (first | refine s_nil ?_ | (refine k_C ?_; first | refine s_seq ?_ | refine s_region ?_) | (refine k_E ?_; refine e_seq ?_) | (refine k_bin ?_; refine s_lss rfl rfl ?_)))
    (first | (refine k_C ?_; (refine s_ifd rfl ?_ ?_ <;> intro hc <;> try (exfalso; omega))))
    rotate_left
    · have hmE : m = (nth (nth p.fFuncs.xs i).fBlocks.xs j).fIns.xs.length := by omega
      subst hmE
      rw [List.take_length] at hW
      (repeat' (first | refine s_move ?_ | refine s_nil ?_ | (refine k_C ?_; first | refine s_region ?_ | refine s_exit ?_) | (refine k_E ?_; first | refine e_seq ?_ | refine e_seq_exit ?_ | refine e_bk_exit ?_ | refine e_bk ?_ | refine e_lp_exit ?_) | (refine k_bin ?_; refine s_add1 rfl rfl om ?_)))
      exact e_lp (j + 1, a, W) (by repeat (first | exact trivial | refine ⟨rfl, ?_⟩)) ⟨by show j + 1 ≤ _; omega, by show WPre ((p.fFuncs.xs.take i).flatMap insF ++ ((nth p.fFuncs.xs i).fBlocks.xs.take (j + 1)).flatMap _) _ _ _; rw [flat_takeN hjl, ← List.append_assoc]; exact hW⟩ (by show _ - _ < _ - _; omega) PSub.refl
    have hml : m < (nth (nth p.fFuncs.xs i).fBlocks.xs j).fIns.xs.length := by omega
    have hIr := (hG.ins i hil j hjl m hml).arr
    have hgo : ∀ a' W', a' = (a || decide ((nth (nth (nth p.fFuncs.xs i).fBlocks.xs j).fIns.xs m).fOp = 6)) → (W' = if (nth (nth (nth p.fFuncs.xs i).fBlocks.xs j).fIns.xs m).fOp = 4 ∧ 0 ≤ (nth (nth (nth p.fFuncs.xs i).fBlocks.xs j).fIns.xs m).fArr ∧ (nth (nth (nth p.fFuncs.xs i).fBlocks.xs j).fIns.xs m).fArr < p.fArrays.xs.length then W.set (nth (nth (nth p.fFuncs.xs i).fBlocks.xs j).fIns.xs m).fArr.toNat true else W) → WPre (((p.fFuncs.xs.take i).flatMap insF ++ ((nth p.fFuncs.xs i).fBlocks.xs.take j).flatMap fun b => b.fIns.xs) ++ (nth (nth p.fFuncs.xs i).fBlocks.xs j).fIns.xs.take (m + 1)) p.fArrays.xs.length a' W' := fun a' W' h1 h2 => by
      rw [← takeN hml, ← List.append_assoc]
      exact hW.go h1 h2
    cases a with
    | true =>
      (repeat' (first | refine s_move ?_ | refine s_assign ?_ | refine s_nil ?_ | (refine k_C ?_; first | refine s_seq ?_ | refine s_region ?_ | refine s_skip ?_ | refine s_block ?_ | (refine s_ifd rfl ?_ ?_ <;> intro hc <;> try (exfalso; omega))) | (refine k_E ?_; first | refine e_seq ?_ | refine e_bk ?_) | (refine k_load ?_; first | refine s_ldB rfl rfl ?_ | refine s_ldSA rfl rfl om rfl ?_) | (refine k_bin ?_; first | refine s_add1 rfl rfl om ?_ | refine s_eql rfl rfl ?_) | (refine k_fld ?_; refine s_fldB rfl ?_) | (refine k_idx ?_; first | refine s_idxI rfl rfl om om ?_ | refine s_idxS rfl rfl om ?_) | (refine k_store ?_; first | refine s_stW _ rfl rfl ?_ | refine s_st _ rfl rfl om ?_) | (refine k_guard ?_; refine s_off rfl rfl rfl rfl ?_) | (refine s_alloc ?_; intro b) | refine s_pick rfl ?_))
      · exact e_lp (m + 1, true, W.set (nth (nth (nth p.fFuncs.xs i).fBlocks.xs j).fIns.xs m).fArr.toNat true) (by repeat (first | exact trivial | refine ⟨rfl, ?_⟩)) ⟨by show m + 1 ≤ _; omega, hgo _ _ (by simp) (by show _ = if _ then _ else _; rw [if_pos ⟨by assumption, by omega, by omega⟩])⟩ (by show _ - _ < _ - _; omega) (PSub.take [1, 1, 1, 1, 1, 1, 1, 1, 1] (by kernel_rfl))
      · exact e_lp (m + 1, true, W) (by repeat (first | exact trivial | refine ⟨rfl, ?_⟩)) ⟨by show m + 1 ≤ _; omega, hgo _ _ (by simp) (by show _ = if _ then _ else _; rw [if_neg (by omega)])⟩ (by show _ - _ < _ - _; omega) (PSub.take [1, 1, 1, 1, 1, 1, 1, 1, 1] (by kernel_rfl))
    | false =>
      (repeat' (first | refine s_move ?_ | refine s_assign ?_ | refine s_nil ?_ | (refine k_C ?_; first | refine s_seq ?_ | refine s_region ?_ | refine s_skip ?_ | refine s_block ?_ | (refine s_ifd rfl ?_ ?_ <;> intro hc <;> try (exfalso; omega))) | (refine k_E ?_; first | refine e_seq ?_ | refine e_bk ?_) | (refine k_load ?_; first | refine s_ldB rfl rfl ?_ | refine s_ldSA rfl rfl om rfl ?_) | (refine k_bin ?_; first | refine s_add1 rfl rfl om ?_ | refine s_eql rfl rfl ?_) | (refine k_fld ?_; refine s_fldB rfl ?_) | (refine k_idx ?_; first | refine s_idxI rfl rfl om om ?_ | refine s_idxS rfl rfl om ?_) | (refine k_store ?_; first | refine s_stW _ rfl rfl ?_ | refine s_st _ rfl rfl om ?_) | (refine k_guard ?_; refine s_on rfl rfl ?_) | (refine s_alloc ?_; intro b) | refine s_pick rfl ?_))
      · exact e_lp (m + 1, decide ((nth (nth (nth p.fFuncs.xs i).fBlocks.xs j).fIns.xs m).fOp = 6), W.set (nth (nth (nth p.fFuncs.xs i).fBlocks.xs j).fIns.xs m).fArr.toNat true) (by repeat (first | exact trivial | refine ⟨rfl, ?_⟩)) ⟨by show m + 1 ≤ _; omega, hgo _ _ (by simp) (by show _ = if _ then _ else _; rw [if_pos ⟨by assumption, by omega, by omega⟩])⟩ (by show _ - _ < _ - _; omega) (PSub.take [1, 1, 1, 1, 1, 1, 1, 1, 1] (by kernel_rfl))
      · exact e_lp (m + 1, decide ((nth (nth (nth p.fFuncs.xs i).fBlocks.xs j).fIns.xs m).fOp = 6), W) (by repeat (first | exact trivial | refine ⟨rfl, ?_⟩)) ⟨by show m + 1 ≤ _; omega, hgo _ _ (by simp) (by show _ = if _ then _ else _; rw [if_neg (by omega)])⟩ (by show _ - _ < _ - _; omega) (PSub.take [1, 1, 1, 1, 1, 1, 1, 1, 1] (by kernel_rfl))
    --}
  have hiE : i = p.fFuncs.xs.length := by omega
  subst hiE
  rw [List.take_length] at hW
  (repeat' (first | refine s_move ?_ | refine s_nil ?_ | (refine k_C ?_; first | refine s_seq ?_ | refine s_region ?_ | refine s_block ?_ | refine s_exit ?_) | (refine k_E ?_; first | refine e_seq ?_ | refine e_seq_exit ?_ | refine e_bk_exit ?_ | refine e_lp_exit ?_) | (refine k_load ?_; refine s_ldB rfl rfl ?_) | (refine k_fld ?_; refine s_fldB rfl ?_) | (refine k_call ?_; refine s_len rfl ?_)))
  have hwW := hW.w
  refine s_loop (σ := Nat × List Bool) (fun q => [(2, .int .i64 2), (3, .pointer (some ⟨b3, 0, none⟩)), (4, .pointer (some ⟨b4, 0, none⟩)), (6, .pointer (some ⟨b6, 0, none⟩)), (7, .pointer (some ⟨b7, 0, none⟩)), (9, .slice (some ⟨b9, 0, none⟩) p.fArrays.xs.length p.fArrays.xs.length), (8, .bool S.a), (103, .slice p.fArrays.A p.fArrays.xs.length p.fArrays.c), (104, .int .i64 p.fArrays.xs.length), (105, .int .i64 (q.1 : Nat))])
    (fun q => [var 40 b7 (⟨⟨S.Av, S.cv, S.xv⟩, ⟨some ⟨bA, 0, none⟩, p.fArrays.xs.length, q.2⟩, ⟨some ⟨bR, 0, none⟩, p.fFuncs.xs.length, (List.replicate p.fFuncs.xs.length false)⟩⟩ : Palingslaw12Facts), own 29 S.Av S.xv.length S.cv S.xv, bagG EB 3 (fun j => (madeAll (nth p.fFuncs.xs j).fBlocks.xs).length) p.fFuncs.xs.length S.mv (fun _ _ => none), own 4 (some ⟨b9, 0, none⟩) p.fArrays.xs.length p.fArrays.xs.length S.W, own 4 (some ⟨bA, 0, none⟩) q.2.length p.fArrays.xs.length q.2, own 4 (some ⟨bR, 0, none⟩) p.fFuncs.xs.length p.fFuncs.xs.length (List.replicate p.fFuncs.xs.length false), var 40 b6 (Enc.dflt : Palingslaw12Facts), var 26 b4 cut, var 25 b3 p])
    (fun q => q.1 ≤ p.fArrays.xs.length ∧ q.2.length = p.fArrays.xs.length ∧ ∀ x, x < p.fArrays.xs.length → nth q.2 x = if x < q.1 then decide ((nth p.fArrays.xs x).fHold = 2) else false) (fun q => p.fArrays.xs.length - q.1)
    (0, (List.replicate p.fArrays.xs.length false)) (by repeat (first | exact trivial | refine ⟨rfl, ?_⟩)) ⟨Nat.zero_le _, List.length_replicate, fun x _ => by show nth (List.replicate p.fArrays.xs.length false) x = if x < 0 then _ else false; rw [if_neg (Nat.not_lt_zero x)]; exact nth_rep (α := Bool)⟩ (PSub.eq (by simp only [List.length_replicate])) ?_
  rintro g2 ⟨i, xa⟩ ⟨hi, hxl, hxa⟩
  dsimp only at hi hxl hxa ⊢
  (repeat' (first | refine s_nil ?_ | (refine k_C ?_; first | refine s_seq ?_ | refine s_region ?_) | (refine k_E ?_; refine e_seq ?_) | (refine k_bin ?_; refine s_lss rfl rfl ?_)))
  (first | (refine k_C ?_; (refine s_ifd rfl ?_ ?_ <;> intro hc <;> try (exfalso; omega))))
  ·
    --{
    have hil : i < p.fArrays.xs.length := by omega
    (repeat' (first | refine s_move ?_ | refine s_assign ?_ | refine s_nil ?_ | (refine k_C ?_; first | refine s_seq ?_ | refine s_region ?_ | refine s_skip ?_ | refine s_block ?_) | (refine k_E ?_; first | refine e_seq ?_ | refine e_bk ?_) | (refine k_load ?_; first | refine s_ldB rfl rfl ?_ | refine s_ldSA rfl rfl om rfl ?_) | (refine k_bin ?_; first | refine s_add1 rfl rfl om ?_ | refine s_eql rfl rfl ?_) | (refine k_fld ?_; refine s_fldB rfl ?_) | (refine k_idx ?_; first | refine s_idx rfl rfl om ?_ | refine s_idxS rfl rfl om ?_) | (refine k_store ?_; first | refine s_stW _ rfl rfl ?_ | refine s_st _ rfl rfl om ?_) | (refine s_alloc ?_; intro b)))
    exact e_lp (i + 1, xa.set i (decide ((nth p.fArrays.xs i).fHold = 2))) (by repeat (first | exact trivial | refine ⟨rfl, ?_⟩)) ⟨by show i + 1 ≤ _; omega, by show (xa.set i _).length = _; rw [List.length_set, hxl], fun x hx => by
      show nth (xa.set i _) x = if x < i + 1 then _ else false
      rw [nth_set (by omega), hxa x hx]
      by_cases e : x = i
      · subst e; rw [if_pos rfl, if_pos (by omega)]
      · rw [if_neg e]
        by_cases e2 : x < i
        · rw [if_pos e2, if_pos (by omega)]
        · rw [if_neg e2, if_neg (by omega)]⟩ (by show _ - _ < _ - _; omega) ((PSub.take (L' := [var 40 b7 (⟨⟨S.Av, S.cv, S.xv⟩, ⟨some ⟨bA, 0, none⟩, p.fArrays.xs.length, xa⟩, ⟨some ⟨bR, 0, none⟩, p.fFuncs.xs.length, (List.replicate p.fFuncs.xs.length false)⟩⟩ : Palingslaw12Facts), own 29 S.Av S.xv.length S.cv S.xv, bagG EB 3 (fun j => (madeAll (nth p.fFuncs.xs j).fBlocks.xs).length) p.fFuncs.xs.length S.mv (fun _ _ => none), own 4 (some ⟨b9, 0, none⟩) p.fArrays.xs.length p.fArrays.xs.length S.W, own 4 (some ⟨bA, 0, none⟩) xa.length p.fArrays.xs.length (xa.set i (decide ((nth p.fArrays.xs i).fHold = 2))), own 4 (some ⟨bR, 0, none⟩) p.fFuncs.xs.length p.fFuncs.xs.length (List.replicate p.fFuncs.xs.length false), var 40 b6 (Enc.dflt : Palingslaw12Facts), var 26 b4 cut, var 25 b3 p]) [1, 1, 1, 1, 1, 1, 1, 1, 1] (by kernel_rfl)).trans (PSub.eq (by
      rw [fxA (ys := xa.set i (decide ((nth p.fArrays.xs i).fHold = 2))) List.length_set, List.length_set])))
    --}
  have hiE : i = p.fArrays.xs.length := by omega
  subst hiE
  (repeat' (first | refine s_move ?_ | refine s_nil ?_ | (refine k_C ?_; first | refine s_seq ?_ | refine s_region ?_ | refine s_skip ?_ | refine s_exit ?_ | refine s_iff rfl ?_) | (refine k_E ?_; first | refine e_seq ?_ | refine e_seq_exit ?_ | refine e_bk_exit ?_ | refine e_lp_exit ?_) | (refine k_load ?_; first | refine s_ldB rfl rfl ?_ | refine s_ldBW rfl rfl ?_) | (refine k_bin ?_; refine s_eql rfl rfl ?_) | (refine k_store ?_; refine s_stW _ rfl rfl ?_) | refine s_func (v1 := []) (v2 := [.pointer _]) rfl rfl ?_ | (refine s_alloc ?_; intro b) | refine s_not rfl ?_))
  obtain ⟨b20, rfl⟩ : ∃ q, q = b := ⟨_, rfl⟩
  obtain ⟨b19, rfl⟩ : ∃ q, q = b := ⟨_, rfl⟩
  obtain ⟨b18, rfl⟩ : ∃ q, q = b := ⟨_, rfl⟩
  refine s_stW (Fv.fn 29 [.pointer (some ⟨b4, 0, none⟩)]) rfl rfl ?_
  (repeat' (first | refine s_move ?_ | refine s_assign ?_ | refine s_nil ?_ | (refine k_C ?_; first | refine s_seq ?_ | refine s_region ?_ | refine s_block ?_) | (refine k_E ?_; refine e_seq ?_) | (refine k_load ?_; refine s_ldB rfl rfl ?_) | (refine k_fld ?_; refine s_fldB rfl ?_) | (refine k_call ?_; refine s_len rfl ?_)))
  obtain ⟨k, hkb, hkx, hkA, hkca, hkR, hkcr, hkm, hkn, hkK⟩ : ∃ k : FC, k.b = b7 ∧ k.xv = ⟨S.Av, S.cv, S.xv⟩ ∧ k.Aa = some ⟨bA, 0, none⟩ ∧ k.ca = p.fArrays.xs.length ∧ k.Ar = some ⟨bR, 0, none⟩ ∧ k.cr = p.fFuncs.xs.length ∧ k.mv = S.mv ∧ k.n = p.fFuncs.xs.length ∧ k.K = fun j => madeAll (nth p.fFuncs.xs j).fBlocks.xs := ⟨⟨b7, ⟨S.Av, S.cv, S.xv⟩, some ⟨bA, 0, none⟩, p.fArrays.xs.length, some ⟨bR, 0, none⟩, p.fFuncs.xs.length, S.mv, p.fFuncs.xs.length, fun j => madeAll (nth p.fFuncs.xs j).fBlocks.xs⟩, rfl, rfl, rfl, rfl, rfl, rfl, rfl, rfl, rfl⟩
  subst hkb
  have hkOk : k.Ok := ⟨by omega, by rw [hkx, hkn]; exact hvl, fun j hj => by rw [hkx, hkm]; exact hvb j (by omega), fun j hj => by
    rw [hkK]
    have := madeAll_few (hp.k j (by omega))
    show (madeAll _).length ≤ _
    omega⟩
  obtain ⟨S0, hS0⟩ : ∃ S0 : FSt, S0 = ⟨(fun _ _ => none), xa, (List.replicate p.fFuncs.xs.length false)⟩ := ⟨_, rfl⟩
  have hS0k : S0.Ok k := fun f _ v h => by rw [hS0] at h; exact absurd rfl h
  have hS0a : S0.A.length = p.fArrays.xs.length := by rw [hS0]; exact hxl
  have hS0r : S0.Rt.length = p.fFuncs.xs.length := by rw [hS0]; exact List.length_replicate
  have hS0m : memF S0 = baseF p := by
    rw [hS0]
    exact FSt.start p (fun x hx => by rw [hxa x hx, if_pos hx]) hxl
  refine s_sub (L' := [bagG EB 3 (fun j => (k.K j).length) k.n k.mv S0.V, var 40 k.b (⟨k.xv, ⟨k.Aa, k.ca, S0.A⟩, ⟨k.Ar, k.cr, S0.Rt⟩⟩ : Palingslaw12Facts), own 29 k.xv.A k.xv.xs.length k.xv.c k.xv.xs, own 4 k.Aa S0.A.length k.ca S0.A, own 4 k.Ar S0.Rt.length k.cr S0.Rt, var 4 b18 true, var 87 b20 (Fv.fn 29 [.pointer (some ⟨b4, 0, none⟩)]), var 26 b4 cut, own 4 (some ⟨b9, 0, none⟩) p.fArrays.xs.length p.fArrays.xs.length S.W, var 25 b3 p, var 40 b6 (Enc.dflt : Palingslaw12Facts), var 40 b19 (⟨k.xv, ⟨k.Aa, k.ca, S0.A⟩, ⟨k.Ar, k.cr, S0.Rt⟩⟩ : Palingslaw12Facts)]) ((PSub.take (L' := [bagG EB 3 (fun j => (madeAll (nth p.fFuncs.xs j).fBlocks.xs).length) p.fFuncs.xs.length S.mv (fun _ _ => none), var 40 k.b (⟨⟨S.Av, S.cv, S.xv⟩, ⟨some ⟨bA, 0, none⟩, p.fArrays.xs.length, xa⟩, ⟨some ⟨bR, 0, none⟩, p.fFuncs.xs.length, (List.replicate p.fFuncs.xs.length false)⟩⟩ : Palingslaw12Facts), own 29 S.Av S.xv.length S.cv S.xv, own 4 (some ⟨bA, 0, none⟩) xa.length p.fArrays.xs.length xa, own 4 (some ⟨bR, 0, none⟩) p.fFuncs.xs.length p.fFuncs.xs.length (List.replicate p.fFuncs.xs.length false), var 4 b18 true, var 87 b20 (Fv.fn 29 [.pointer (some ⟨b4, 0, none⟩)]), var 26 b4 cut, own 4 (some ⟨b9, 0, none⟩) p.fArrays.xs.length p.fArrays.xs.length S.W, var 25 b3 p, var 40 b6 (Enc.dflt : Palingslaw12Facts), var 40 b19 (⟨⟨S.Av, S.cv, S.xv⟩, ⟨some ⟨bA, 0, none⟩, p.fArrays.xs.length, xa⟩, ⟨some ⟨bR, 0, none⟩, p.fFuncs.xs.length, (List.replicate p.fFuncs.xs.length false)⟩⟩ : Palingslaw12Facts)]) [5, 3, 3, 4, 4, 2, 0, 3, 1, 2, 1, 0] (by kernel_rfl)).trans (PSub.eq (by
    rw [hkx, hkA, hkca, hkR, hkcr, hkm, hkn, hkK, hS0]
    simp only [List.length_replicate]))) ?_
  have hmay : ∀ i : SsaIns, mayF (xHi Cf) i = false := fun _ => rfl
  refine s_loop (σ := Nat × Nat) (fun q => [(3, .pointer (some ⟨b3, 0, none⟩)), (4, .pointer (some ⟨b4, 0, none⟩)), (6, .pointer (some ⟨b6, 0, none⟩)), (7, .pointer (some ⟨k.b, 0, none⟩)), (8, .bool S.a), (9, .slice (some ⟨b9, 0, none⟩) p.fArrays.xs.length p.fArrays.xs.length), (18, .pointer (some ⟨b18, 0, none⟩)), (19, .pointer (some ⟨b19, 0, none⟩)), (20, .pointer (some ⟨b20, 0, none⟩)), (128, .slice p.fFuncs.A p.fFuncs.xs.length p.fFuncs.c), (129, .int .i64 p.fFuncs.xs.length), (130, .int .i64 (q.1 : Nat)), (21, .int .i64 (q.2 : Nat))]) (fun _ => [bagG EB 3 (fun j => (k.K j).length) k.n k.mv S0.V, var 40 k.b (⟨k.xv, ⟨k.Aa, k.ca, S0.A⟩, ⟨k.Ar, k.cr, S0.Rt⟩⟩ : Palingslaw12Facts), own 29 k.xv.A k.xv.xs.length k.xv.c k.xv.xs, own 4 k.Aa S0.A.length k.ca S0.A, own 4 k.Ar S0.Rt.length k.cr S0.Rt, var 4 b18 true, var 87 b20 (Fv.fn 29 [.pointer (some ⟨b4, 0, none⟩)]), var 26 b4 cut, own 4 (some ⟨b9, 0, none⟩) p.fArrays.xs.length p.fArrays.xs.length S.W, var 25 b3 p, var 40 b6 (Enc.dflt : Palingslaw12Facts), var 40 b19 (⟨k.xv, ⟨k.Aa, k.ca, S0.A⟩, ⟨k.Ar, k.cr, S0.Rt⟩⟩ : Palingslaw12Facts)])
    (fun q => q.1 ≤ p.fFuncs.xs.length ∧ q.2 = ((p.fFuncs.xs.take q.1).map partFn).sum) (fun q => p.fFuncs.xs.length - q.1) (0, 0) (by repeat (first | exact trivial | refine ⟨rfl, ?_⟩)) ⟨Nat.zero_le _, rfl⟩ PSub.refl ?_
  rintro g3 ⟨i, P⟩ ⟨hi, hP⟩
  dsimp only at hi hP ⊢
  have hPb := few_funcs hp i
  rw [← hP] at hPb
  (repeat' (first | refine s_nil ?_ | (refine k_C ?_; first | refine s_seq ?_ | refine s_region ?_) | (refine k_E ?_; refine e_seq ?_) | (refine k_bin ?_; refine s_lss rfl rfl ?_)))
  (first | (refine k_C ?_; (refine s_ifd rfl ?_ ?_ <;> intro hc <;> try (exfalso; omega))))
  ·
    --{
    have hil : i < p.fFuncs.xs.length := by omega
    have hfb := (hp.k i hil).b
    (repeat' (first | refine s_move ?_ | refine s_assign ?_ | refine s_nil ?_ | (refine k_C ?_; first | refine s_seq ?_ | refine s_region ?_ | refine s_skip ?_ | refine s_block ?_) | (refine k_E ?_; refine e_seq ?_) | (refine k_load ?_; first | refine s_ldB rfl rfl ?_ | refine s_ldSA rfl rfl om rfl ?_) | (refine k_bin ?_; refine s_add1 rfl rfl om ?_) | (refine k_fld ?_; refine s_fldB rfl ?_) | (refine k_idx ?_; refine s_idxS rfl rfl om ?_) | (refine k_store ?_; refine s_stW _ rfl rfl ?_) | (refine k_call ?_; refine s_len rfl ?_) | (refine s_alloc ?_; intro b)))
    obtain ⟨b23, rfl⟩ : ∃ q, q = b := ⟨_, rfl⟩
    refine s_loop (σ := Nat × Nat) (fun q => [(3, .pointer (some ⟨b3, 0, none⟩)), (4, .pointer (some ⟨b4, 0, none⟩)), (6, .pointer (some ⟨b6, 0, none⟩)), (7, .pointer (some ⟨k.b, 0, none⟩)), (8, .bool S.a), (9, .slice (some ⟨b9, 0, none⟩) p.fArrays.xs.length p.fArrays.xs.length), (18, .pointer (some ⟨b18, 0, none⟩)), (19, .pointer (some ⟨b19, 0, none⟩)), (20, .pointer (some ⟨b20, 0, none⟩)), (128, .slice p.fFuncs.A p.fFuncs.xs.length p.fFuncs.c), (129, .int .i64 p.fFuncs.xs.length), (130, .int .i64 (i : Nat)), (137, .slice (nth p.fFuncs.xs i).fBlocks.A (nth p.fFuncs.xs i).fBlocks.xs.length (nth p.fFuncs.xs i).fBlocks.c), (138, .int .i64 (nth p.fFuncs.xs i).fBlocks.xs.length), (139, .int .i64 (q.1 : Nat)), (21, .int .i64 (q.2 : Nat))]) (fun _ => [bagG EB 3 (fun j => (k.K j).length) k.n k.mv S0.V, var 40 k.b (⟨k.xv, ⟨k.Aa, k.ca, S0.A⟩, ⟨k.Ar, k.cr, S0.Rt⟩⟩ : Palingslaw12Facts), own 29 k.xv.A k.xv.xs.length k.xv.c k.xv.xs, own 4 k.Aa S0.A.length k.ca S0.A, own 4 k.Ar S0.Rt.length k.cr S0.Rt, var 4 b18 true, var 87 b20 (Fv.fn 29 [.pointer (some ⟨b4, 0, none⟩)]), var 26 b4 cut, own 4 (some ⟨b9, 0, none⟩) p.fArrays.xs.length p.fArrays.xs.length S.W, var 25 b3 p, var 40 b6 (Enc.dflt : Palingslaw12Facts), var 40 b19 (⟨k.xv, ⟨k.Aa, k.ca, S0.A⟩, ⟨k.Ar, k.cr, S0.Rt⟩⟩ : Palingslaw12Facts)])
      (fun q => q.1 ≤ (nth p.fFuncs.xs i).fBlocks.xs.length ∧ q.2 = P + 1 + (((nth p.fFuncs.xs i).fBlocks.xs.take q.1).map partB).sum) (fun q => (nth p.fFuncs.xs i).fBlocks.xs.length - q.1) (0, P + 1) (by repeat (first | exact trivial | refine ⟨rfl, ?_⟩)) ⟨Nat.zero_le _, rfl⟩ PSub.tl ?_
    rintro g4 ⟨j, Q⟩ ⟨hj, hQ⟩
    dsimp only at hj hQ ⊢
    have hQb := few_blocks (hp.k i hil) j
    (repeat' (first | refine s_nil ?_ | (refine k_C ?_; first | refine s_seq ?_ | refine s_region ?_) | (refine k_E ?_; refine e_seq ?_) | (refine k_bin ?_; refine s_lss rfl rfl ?_)))
    (first | (refine k_C ?_; (refine s_ifd rfl ?_ ?_ <;> intro hc <;> try (exfalso; omega))))
    · have hjl : j < (nth p.fFuncs.xs i).fBlocks.xs.length := by omega
      have hpl := ((hp.k i hil).k j hjl).p
      have hinl := ((hp.k i hil).k j hjl).i
      (repeat' (first | refine s_move ?_ | refine s_assign ?_ | refine s_nil ?_ | (refine k_C ?_; first | refine s_seq ?_ | refine s_region ?_ | refine s_skip ?_ | refine s_block ?_) | (refine k_E ?_; first | refine e_seq ?_ | refine e_bk ?_) | (refine k_load ?_; first | refine s_ldB rfl rfl ?_ | refine s_ldSA rfl rfl om rfl ?_) | (refine k_bin ?_; first | refine s_add1 rfl rfl om ?_ | refine s_add64 rfl rfl om ?_) | (refine k_fld ?_; refine s_fldB rfl ?_) | (refine k_idx ?_; refine s_idxS rfl rfl om ?_) | (refine k_store ?_; refine s_stW _ rfl rfl ?_) | (refine k_call ?_; refine s_len rfl ?_) | (refine s_alloc ?_; intro b)))
      refine e_lp (j + 1, Q + ((nth (nth p.fFuncs.xs i).fBlocks.xs j).fParams.xs.length + (nth (nth p.fFuncs.xs i).fBlocks.xs j).fIns.xs.length)) (by repeat (first | exact trivial | refine ⟨rfl, ?_⟩)) ⟨by show j + 1 ≤ _; omega, ?_⟩ (by show _ - _ < _ - _; omega) PSub.tl
      show Q + _ = P + 1 + (((nth p.fFuncs.xs i).fBlocks.xs.take (j + 1)).map partB).sum
      rw [sum_take hjl, hQ]
      show _ = P + 1 + (_ + ((nth (nth p.fFuncs.xs i).fBlocks.xs j).fParams.xs.length + (nth (nth p.fFuncs.xs i).fBlocks.xs j).fIns.xs.length))
      omega
    have hjE : j = (nth p.fFuncs.xs i).fBlocks.xs.length := by omega
    subst hjE
    rw [List.take_length] at hQ
    (repeat' (first | refine s_move ?_ | refine s_nil ?_ | (refine k_C ?_; first | refine s_region ?_ | refine s_exit ?_) | (refine k_E ?_; first | refine e_seq ?_ | refine e_seq_exit ?_ | refine e_bk_exit ?_ | refine e_bk ?_ | refine e_lp_exit ?_) | (refine k_bin ?_; refine s_add1 rfl rfl om ?_)))
    refine e_lp (i + 1, Q) (by repeat (first | exact trivial | refine ⟨rfl, ?_⟩)) ⟨by show i + 1 ≤ _; omega, ?_⟩ (by show _ - _ < _ - _; omega) PSub.refl
    show Q = ((p.fFuncs.xs.take (i + 1)).map partFn).sum
    rw [sum_take hil, hQ, hP]
    show _ = _ + (1 + _)
    omega
    --}
  have hiE : i = p.fFuncs.xs.length := by omega
  subst hiE
  rw [List.take_length] at hP
  (repeat' (first | refine s_assign ?_ | refine s_nil ?_ | (refine k_C ?_; first | refine s_seq ?_ | refine s_region ?_ | refine s_block ?_ | refine s_exit ?_) | (refine k_E ?_; first | refine e_seq ?_ | refine e_seq_exit ?_ | refine e_bk_exit ?_ | refine e_lp_exit ?_)))
  refine s_loop (σ := Nat × FSt) (fun q => [(3, .pointer (some ⟨b3, 0, none⟩)), (4, .pointer (some ⟨b4, 0, none⟩)), (6, .pointer (some ⟨b6, 0, none⟩)), (7, .pointer (some ⟨k.b, 0, none⟩)), (8, .bool S.a), (9, .slice (some ⟨b9, 0, none⟩) p.fArrays.xs.length p.fArrays.xs.length), (18, .pointer (some ⟨b18, 0, none⟩)), (19, .pointer (some ⟨b19, 0, none⟩)), (20, .pointer (some ⟨b20, 0, none⟩)), (21, .int .i64 (P : Nat)), (26, .int .i64 (q.1 : Nat))]) (fun q => [bagG EB 3 (fun j => (k.K j).length) k.n k.mv q.2.V, var 40 k.b (⟨k.xv, ⟨k.Aa, k.ca, q.2.A⟩, ⟨k.Ar, k.cr, q.2.Rt⟩⟩ : Palingslaw12Facts), own 29 k.xv.A k.xv.xs.length k.xv.c k.xv.xs, own 4 k.Aa q.2.A.length k.ca q.2.A, own 4 k.Ar q.2.Rt.length k.cr q.2.Rt, var 4 b18 true, var 87 b20 (Fv.fn 29 [.pointer (some ⟨b4, 0, none⟩)]), var 26 b4 cut, own 4 (some ⟨b9, 0, none⟩) p.fArrays.xs.length p.fArrays.xs.length S.W, var 25 b3 p, var 40 b6 (Enc.dflt : Palingslaw12Facts), var 40 b19 (⟨k.xv, ⟨k.Aa, k.ca, q.2.A⟩, ⟨k.Ar, k.cr, q.2.Rt⟩⟩ : Palingslaw12Facts)])
    (fun q => q.1 ≤ P + p.fArrays.xs.length + 2 ∧ q.2.Ok k ∧ q.2.A.length = p.fArrays.xs.length ∧ q.2.Rt.length = p.fFuncs.xs.length ∧ memF q.2 = roundsF (xHi Cf) (fqP p (xHi Cf) p.fFuncs.xs.length) q.1 (baseF p)) (fun q => P + p.fArrays.xs.length + 2 - q.1) (0, S0) (by repeat (first | exact trivial | refine ⟨rfl, ?_⟩)) ⟨Nat.zero_le _, hS0k, hS0a, hS0r, hS0m⟩ PSub.refl ?_
  rintro g4 ⟨n, s⟩ ⟨hn, hs, hal, hrl, hmm⟩
  dsimp only at hn hs hal hrl hmm ⊢
  (repeat' (first | refine s_move ?_ | refine s_nil ?_ | (refine k_C ?_; first | refine s_seq ?_ | refine s_region ?_) | (refine k_E ?_; refine e_seq ?_) | (refine k_load ?_; refine s_ldB rfl rfl ?_) | (refine k_bin ?_; first | refine s_lss rfl rfl ?_ | refine s_add64 rfl rfl om ?_) | (refine k_fld ?_; refine s_fldB rfl ?_) | (refine k_call ?_; refine s_len rfl ?_)))
  (first | (refine k_C ?_; (refine s_ifd rfl ?_ ?_ <;> intro hc <;> try (exfalso; omega))))
  rotate_left
  · have hnE : n = P + p.fArrays.xs.length + 2 := by omega
    subst hnE
    (repeat' (first | refine s_nil ?_ | (refine k_C ?_; first | refine s_seq ?_ | refine s_region ?_ | refine s_exit ?_ | refine s_ret ?_) | (refine k_E ?_; first | refine e_seq ?_ | refine e_seq_exit ?_ | refine e_bk_exit ?_ | refine e_lp_exit ?_) | (refine k_load ?_; refine s_ldBW rfl rfl ?_) | (refine k_store ?_; refine s_stW _ rfl rfl ?_)))
    exact e_doneC rfl rfl rfl rfl [own 29 k.xv.A k.xv.xs.length k.xv.c k.xv.xs, own 4 k.Aa s.A.length k.ca s.A, own 4 k.Ar s.Rt.length k.cr s.Rt, bagG EB 3 (fun j => (madeAll (nth p.fFuncs.xs j).fBlocks.xs).length) p.fFuncs.xs.length k.mv s.V] ((PSub.take [2, 2, 2, 0] rfl).trans (PSub.eq (by rw [hkn, hkK]; rfl))) ⟨(⟨k.xv, ⟨k.Aa, k.ca, s.A⟩, ⟨k.Ar, k.cr, s.Rt⟩⟩ : Palingslaw12Facts), k.mv, s, rfl, rfl, rfl, by rw [← hkn]; exact hkOk.vl, fun j hj => hkOk.v j (by omega), hal, hrl, by rw [hmm, hP]; rfl, rfl⟩
  have hnl : n < P + p.fArrays.xs.length + 2 := by omega
  (repeat' (first | refine s_move ?_ | refine s_nil ?_ | (refine k_C ?_; first | refine s_seq ?_ | refine s_region ?_ | refine s_skip ?_ | refine s_block ?_) | (refine k_E ?_; refine e_seq ?_) | (refine k_load ?_; refine s_ldB rfl rfl ?_) | (refine k_fld ?_; refine s_fldB rfl ?_) | (refine k_call ?_; refine s_len rfl ?_)))
  refine s_loop (σ := Nat × FSt) (fun q => [(3, .pointer (some ⟨b3, 0, none⟩)), (4, .pointer (some ⟨b4, 0, none⟩)), (6, .pointer (some ⟨b6, 0, none⟩)), (7, .pointer (some ⟨k.b, 0, none⟩)), (8, .bool S.a), (9, .slice (some ⟨b9, 0, none⟩) p.fArrays.xs.length p.fArrays.xs.length), (18, .pointer (some ⟨b18, 0, none⟩)), (19, .pointer (some ⟨b19, 0, none⟩)), (20, .pointer (some ⟨b20, 0, none⟩)), (21, .int .i64 (P : Nat)), (26, .int .i64 (n : Nat)), (165, .slice p.fFuncs.A p.fFuncs.xs.length p.fFuncs.c), (166, .int .i64 p.fFuncs.xs.length), (167, .int .i64 (q.1 : Nat))]) (fun q => [bagG EB 3 (fun j => (k.K j).length) k.n k.mv q.2.V, var 40 k.b (⟨k.xv, ⟨k.Aa, k.ca, q.2.A⟩, ⟨k.Ar, k.cr, q.2.Rt⟩⟩ : Palingslaw12Facts), own 29 k.xv.A k.xv.xs.length k.xv.c k.xv.xs, own 4 k.Aa q.2.A.length k.ca q.2.A, own 4 k.Ar q.2.Rt.length k.cr q.2.Rt, var 4 b18 true, var 87 b20 (Fv.fn 29 [.pointer (some ⟨b4, 0, none⟩)]), var 26 b4 cut, own 4 (some ⟨b9, 0, none⟩) p.fArrays.xs.length p.fArrays.xs.length S.W, var 25 b3 p, var 40 b6 (Enc.dflt : Palingslaw12Facts), var 40 b19 (⟨k.xv, ⟨k.Aa, k.ca, q.2.A⟩, ⟨k.Ar, k.cr, q.2.Rt⟩⟩ : Palingslaw12Facts)]) (fun q => q.1 ≤ p.fFuncs.xs.length ∧ FW (xHi Cf) k (fqP p (xHi Cf) q.1) s q.2) (fun q => p.fFuncs.xs.length - q.1) (0, s) (by repeat (first | exact trivial | refine ⟨rfl, ?_⟩)) ⟨Nat.zero_le _, FW.nil hs⟩ PSub.refl ?_
  rintro g5 ⟨i, s1⟩ ⟨hi, hW⟩
  dsimp only at hi hW ⊢
  (repeat' (first | refine s_nil ?_ | (refine k_C ?_; first | refine s_seq ?_ | refine s_region ?_) | (refine k_E ?_; refine e_seq ?_) | (refine k_bin ?_; refine s_lss rfl rfl ?_)))
  (first | (refine k_C ?_; (refine s_ifd rfl ?_ ?_ <;> intro hc <;> try (exfalso; omega))))
  rotate_left
  · have hiE : i = p.fFuncs.xs.length := by omega
    subst hiE
    (repeat' (first | refine s_move ?_ | refine s_assign ?_ | refine s_nil ?_ | (refine k_C ?_; first | refine s_region ?_ | refine s_exit ?_) | (refine k_E ?_; first | refine e_seq ?_ | refine e_seq_exit ?_ | refine e_bk_exit ?_ | refine e_bk ?_ | refine e_lp_exit ?_) | (refine k_bin ?_; refine s_add1 rfl rfl om ?_)))
    exact e_lp (n + 1, s1) (by repeat (first | exact trivial | refine ⟨rfl, ?_⟩)) ⟨by show n + 1 ≤ _; omega, hW.ok, hW.al.trans hal, hW.rl.trans hrl, by show memF s1 = roundsF _ _ (n + 1) _; rw [hW.run, hmm, roundsF_succ]⟩ (by show _ - _ < _ - _; omega) PSub.refl
  have hil : i < p.fFuncs.xs.length := by omega
  have hnb := (hp.k i hil).b
  (repeat' (first | refine s_move ?_ | refine s_nil ?_ | (refine k_C ?_; first | refine s_seq ?_ | refine s_region ?_ | refine s_skip ?_ | refine s_block ?_) | (refine k_E ?_; refine e_seq ?_) | (refine k_load ?_; refine s_ldSA rfl rfl om rfl ?_) | (refine k_idx ?_; refine s_idxS rfl rfl om ?_) | (refine k_store ?_; refine s_stW _ rfl rfl ?_) | (refine s_alloc ?_; intro b)))
  obtain ⟨b28, rfl⟩ : ∃ q, q = b := ⟨_, rfl⟩
  obtain ⟨b27, rfl⟩ : ∃ q, q = b := ⟨_, rfl⟩
  refine s_func (v1 := []) (v2 := [.pointer (some ⟨b18, 0, none⟩), .pointer (some ⟨b20, 0, none⟩), .pointer (some ⟨b27, 0, none⟩), .pointer (some ⟨k.b, 0, none⟩)]) rfl rfl ?_
  (repeat' (first | refine s_assign ?_ | refine s_nil ?_ | (refine k_C ?_; first | refine s_seq ?_ | refine s_region ?_) | (refine k_E ?_; refine e_seq ?_) | (refine k_load ?_; refine s_ldBW rfl rfl ?_)))
  refine s_call0 (reach7_spec (nth p.fFuncs.xs i) ((fewP_pr hp).f i)) rfl (fun w1 H => H.rdD (by infer_instance)) ?_
  rintro r L' ⟨A3, c3, rfl, rfl⟩
  (repeat' (first | refine s_move ?_ | refine s_assign ?_ | refine s_nil ?_ | (refine k_C ?_; first | refine s_seq ?_ | refine s_region ?_ | refine s_block ?_) | (refine k_E ?_; refine e_seq ?_) | (refine k_load ?_; refine s_ldB rfl rfl ?_) | (refine k_fld ?_; refine s_fldB rfl ?_) | (refine k_call ?_; refine s_len rfl ?_)))
  refine s_loop (σ := Nat × FSt) (fun q => [(3, .pointer (some ⟨b3, 0, none⟩)), (4, .pointer (some ⟨b4, 0, none⟩)), (6, .pointer (some ⟨b6, 0, none⟩)), (7, .pointer (some ⟨k.b, 0, none⟩)), (8, .bool S.a), (9, .slice (some ⟨b9, 0, none⟩) p.fArrays.xs.length p.fArrays.xs.length), (18, .pointer (some ⟨b18, 0, none⟩)), (19, .pointer (some ⟨b19, 0, none⟩)), (20, .pointer (some ⟨b20, 0, none⟩)), (21, .int .i64 (P : Nat)), (26, .int .i64 (n : Nat)), (165, .slice p.fFuncs.A p.fFuncs.xs.length p.fFuncs.c), (166, .int .i64 p.fFuncs.xs.length), (167, .int .i64 (i : Nat)), (27, .pointer (some ⟨b27, 0, none⟩)), (28, .pointer (some ⟨b28, 0, none⟩)), (29, (.func (.func 30) #[] #[.pointer (some ⟨b18, 0, none⟩), .pointer (some ⟨b20, 0, none⟩), .pointer (some ⟨b27, 0, none⟩), .pointer (some ⟨k.b, 0, none⟩)])), (30, .slice A3 (nth p.fFuncs.xs i).fBlocks.xs.length c3), (176, .slice (nth p.fFuncs.xs i).fBlocks.A (nth p.fFuncs.xs i).fBlocks.xs.length (nth p.fFuncs.xs i).fBlocks.c), (177, .int .i64 (nth p.fFuncs.xs i).fBlocks.xs.length), (178, .int .i64 (q.1 : Nat))]) (fun q => [own 4 A3 (nth p.fFuncs.xs i).fBlocks.xs.length c3 (reachB7 (nth p.fFuncs.xs i)), var 46 b28 (nth p.fFuncs.xs i), var 3 b27 (i : Int), bagG EB 3 (fun j => (k.K j).length) k.n k.mv q.2.V, var 40 k.b (⟨k.xv, ⟨k.Aa, k.ca, q.2.A⟩, ⟨k.Ar, k.cr, q.2.Rt⟩⟩ : Palingslaw12Facts), own 29 k.xv.A k.xv.xs.length k.xv.c k.xv.xs, own 4 k.Aa q.2.A.length k.ca q.2.A, own 4 k.Ar q.2.Rt.length k.cr q.2.Rt, var 4 b18 true, var 87 b20 (Fv.fn 29 [.pointer (some ⟨b4, 0, none⟩)]), var 26 b4 cut, own 4 (some ⟨b9, 0, none⟩) p.fArrays.xs.length p.fArrays.xs.length S.W, var 25 b3 p, var 40 b6 (Enc.dflt : Palingslaw12Facts), var 40 b19 (⟨k.xv, ⟨k.Aa, k.ca, q.2.A⟩, ⟨k.Ar, k.cr, q.2.Rt⟩⟩ : Palingslaw12Facts)]) (fun q => q.1 ≤ (nth p.fFuncs.xs i).fBlocks.xs.length ∧ FW (xHi Cf) k (fqP p (xHi Cf) i ++ fqF p (xHi Cf) i q.1) s q.2) (fun q => (nth p.fFuncs.xs i).fBlocks.xs.length - q.1) (0, s1) (by repeat (first | exact trivial | refine ⟨rfl, ?_⟩)) ⟨Nat.zero_le _, by show FW _ k (_ ++ []) _ _; rw [List.append_nil]; exact hW⟩ PSub.refl ?_
  clear hW
  rintro g6 ⟨j, s1⟩ ⟨hj, hW⟩
  dsimp only at hj hW ⊢
  (repeat' (first | refine s_nil ?_ | (refine k_C ?_; first | refine s_seq ?_ | refine s_region ?_) | (refine k_E ?_; refine e_seq ?_) | (refine k_bin ?_; refine s_lss rfl rfl ?_)))
  (first | (refine k_C ?_; (refine s_ifd rfl ?_ ?_ <;> intro hc <;> try (exfalso; omega))))
  rotate_left
  · have hjE : j = (nth p.fFuncs.xs i).fBlocks.xs.length := by omega
    subst hjE
    (repeat' (first | refine s_move ?_ | refine s_nil ?_ | (refine k_C ?_; first | refine s_region ?_ | refine s_exit ?_) | (refine k_E ?_; first | refine e_seq ?_ | refine e_seq_exit ?_ | refine e_bk_exit ?_ | refine e_bk ?_ | refine e_lp_exit ?_) | (refine k_bin ?_; refine s_add1 rfl rfl om ?_)))
    exact e_lp (i + 1, s1) (by repeat (first | exact trivial | refine ⟨rfl, ?_⟩)) ⟨by show i + 1 ≤ _; omega, by show FW _ k (fqP _ _ (i + 1)) _ _; rw [fqP_succ]; exact hW⟩ (by show _ - _ < _ - _; omega) (PSub.tl.trans (PSub.tl.trans PSub.tl))
  have hjl : j < (nth p.fFuncs.xs i).fBlocks.xs.length := by omega
  (repeat' (first | refine s_move ?_ | refine s_assign ?_ | refine s_nil ?_ | (refine k_C ?_; first | refine s_seq ?_ | refine s_region ?_ | refine s_skip ?_ | refine s_block ?_ | refine s_exit ?_ | (refine s_if rfl ?_ ?_ <;> intro hc)) | (refine k_E ?_; first | refine e_seq ?_ | refine e_seq_exit ?_ | refine e_bk_exit ?_) | (refine k_load ?_; first | refine s_ldB rfl rfl ?_ | refine s_ld rfl om rfl ?_ | refine s_ldSA rfl rfl om rfl ?_) | (refine k_bin ?_; refine s_add1 rfl rfl om ?_) | (refine k_fld ?_; refine s_fldB rfl ?_) | (refine k_idx ?_; first | refine s_idx rfl rfl om ?_ | refine s_idxS rfl rfl om ?_) | (refine k_store ?_; refine s_stW _ rfl rfl ?_) | (refine k_call ?_; refine s_len rfl ?_) | (refine s_alloc ?_; intro b) | refine s_not rfl ?_))
  · have hrn : nth (reachB7 (nth p.fFuncs.xs i)) j = false := by simpa using (by assumption : (!nth (reachB7 (nth p.fFuncs.xs i)) j) = true)
    refine e_lp (j + 1, s1) (by repeat (first | exact trivial | refine ⟨rfl, ?_⟩)) ⟨by show j + 1 ≤ _; omega, ?_⟩ (by show _ - _ < _ - _; omega) PSub.tl
    show FW _ k (_ ++ fqF _ _ i (j + 1)) _ _
    rw [fqF_succ, if_neg (by rw [hrn]; decide), List.append_nil]
    exact hW
  have hrn : nth (reachB7 (nth p.fFuncs.xs i)) j = true := by simpa using (by assumption : (!nth (reachB7 (nth p.fFuncs.xs i)) j) = false)
  have hik : i < k.n := by omega
  have hvb := hkOk.v i hik
  have hvl2 := hkOk.vl
  obtain ⟨b32, rfl⟩ : ∃ q, q = b := ⟨_, rfl⟩
  have hBk := (hp.k i hil).k j hjl
  have hinl := hBk.i
  have hwyl := hBk.w
  refine s_loop (σ := Nat × FSt) (fun q => [(3, .pointer (some ⟨b3, 0, none⟩)), (4, .pointer (some ⟨b4, 0, none⟩)), (6, .pointer (some ⟨b6, 0, none⟩)), (7, .pointer (some ⟨k.b, 0, none⟩)), (8, .bool S.a), (9, .slice (some ⟨b9, 0, none⟩) p.fArrays.xs.length p.fArrays.xs.length), (18, .pointer (some ⟨b18, 0, none⟩)), (19, .pointer (some ⟨b19, 0, none⟩)), (20, .pointer (some ⟨b20, 0, none⟩)), (21, .int .i64 (P : Nat)), (26, .int .i64 (n : Nat)), (165, .slice p.fFuncs.A p.fFuncs.xs.length p.fFuncs.c), (166, .int .i64 p.fFuncs.xs.length), (167, .int .i64 (i : Nat)), (27, .pointer (some ⟨b27, 0, none⟩)), (28, .pointer (some ⟨b28, 0, none⟩)), (29, (.func (.func 30) #[] #[.pointer (some ⟨b18, 0, none⟩), .pointer (some ⟨b20, 0, none⟩), .pointer (some ⟨b27, 0, none⟩), .pointer (some ⟨k.b, 0, none⟩)])), (30, .slice A3 (nth p.fFuncs.xs i).fBlocks.xs.length c3), (176, .slice (nth p.fFuncs.xs i).fBlocks.A (nth p.fFuncs.xs i).fBlocks.xs.length (nth p.fFuncs.xs i).fBlocks.c), (177, .int .i64 (nth p.fFuncs.xs i).fBlocks.xs.length), (178, .int .i64 (j : Nat)), (31, .int .i64 (j : Nat)), (32, .pointer (some ⟨b32, 0, none⟩)), (189, .slice (nth (nth p.fFuncs.xs i).fBlocks.xs j).fIns.A (nth (nth p.fFuncs.xs i).fBlocks.xs j).fIns.xs.length (nth (nth p.fFuncs.xs i).fBlocks.xs j).fIns.c), (190, .int .i64 (nth (nth p.fFuncs.xs i).fBlocks.xs j).fIns.xs.length), (191, .int .i64 (q.1 : Nat))]) (fun q => [var 55 b32 (nth (nth p.fFuncs.xs i).fBlocks.xs j), own 4 A3 (nth p.fFuncs.xs i).fBlocks.xs.length c3 (reachB7 (nth p.fFuncs.xs i)), var 46 b28 (nth p.fFuncs.xs i), var 3 b27 (i : Int), bagG EB 3 (fun j => (k.K j).length) k.n k.mv q.2.V, var 40 k.b (⟨k.xv, ⟨k.Aa, k.ca, q.2.A⟩, ⟨k.Ar, k.cr, q.2.Rt⟩⟩ : Palingslaw12Facts), own 29 k.xv.A k.xv.xs.length k.xv.c k.xv.xs, own 4 k.Aa q.2.A.length k.ca q.2.A, own 4 k.Ar q.2.Rt.length k.cr q.2.Rt, var 4 b18 true, var 87 b20 (Fv.fn 29 [.pointer (some ⟨b4, 0, none⟩)]), var 26 b4 cut, own 4 (some ⟨b9, 0, none⟩) p.fArrays.xs.length p.fArrays.xs.length S.W, var 25 b3 p, var 40 b6 (Enc.dflt : Palingslaw12Facts), var 40 b19 (⟨k.xv, ⟨k.Aa, k.ca, q.2.A⟩, ⟨k.Ar, k.cr, q.2.Rt⟩⟩ : Palingslaw12Facts)])
    (fun q => q.1 ≤ (nth (nth p.fFuncs.xs i).fBlocks.xs j).fIns.xs.length ∧ FW (xHi Cf) k (fqP p (xHi Cf) i ++ fqF p (xHi Cf) i j ++ ((nth (nth p.fFuncs.xs i).fBlocks.xs j).fIns.xs.take q.1).flatMap (fqI p (xHi Cf) i)) s q.2) (fun q => (nth (nth p.fFuncs.xs i).fBlocks.xs j).fIns.xs.length - q.1) (0, s1) (by repeat (first | exact trivial | refine ⟨rfl, ?_⟩)) ⟨Nat.zero_le _, by show FW _ k (_ ++ []) _ _; rw [List.append_nil]; exact hW⟩ PSub.refl ?_
  clear hW
  rintro g7 ⟨m, s1⟩ ⟨hm, hW⟩
  dsimp only at hm hW ⊢
  (repeat' (first | refine s_nil ?_ | (refine k_C ?_; first | refine s_seq ?_ | refine s_region ?_) | (refine k_E ?_; refine e_seq ?_) | (refine k_bin ?_; refine s_lss rfl rfl ?_)))
  (first | (refine k_C ?_; (refine s_ifd rfl ?_ ?_ <;> intro hc <;> try (exfalso; omega))))
  · have hml : m < (nth (nth p.fFuncs.xs i).fBlocks.xs j).fIns.xs.length := by omega
    have hal1 := hW.al
    have hrl1 := hW.rl
    have hI := hG.ins i hil j hjl m hml
    have harr := hI.arr
    have hnar := hI.n
    have hfn1 : (nth (nth (nth p.fFuncs.xs i).fBlocks.xs j).fIns.xs m).fOp = 7 → 0 ≤ (nth (nth (nth p.fFuncs.xs i).fBlocks.xs j).fIns.xs m).fFn ∧ (nth (nth (nth p.fFuncs.xs i).fBlocks.xs j).fIns.xs m).fFn < p.fFuncs.xs.length := fun h => ⟨(hI.fn h).1, (hI.fn h).2.1⟩
    have hfn2 : (nth (nth (nth p.fFuncs.xs i).fBlocks.xs j).fIns.xs m).fOp = 7 → 0 < (nth p.fFuncs.xs (nth (nth (nth p.fFuncs.xs i).fBlocks.xs j).fIns.xs m).fFn.toNat).fBlocks.xs.length := fun h => (hI.fn h).2.2.1
    have hdw : wfi (nth (nth (nth p.fFuncs.xs i).fBlocks.xs j).fIns.xs m).fDst := RdD.int (ok := okOf w0 f0) (w := w0) (by infer_instance)
    have hdst : (nth (nth (nth p.fFuncs.xs i).fBlocks.xs j).fIns.xs m).fOp = 2 ∨ (nth (nth (nth p.fFuncs.xs i).fBlocks.xs j).fIns.xs m).fOp = 3 ∨ (nth (nth (nth p.fFuncs.xs i).fBlocks.xs j).fIns.xs m).fOp = 5 ∨ (nth (nth (nth p.fFuncs.xs i).fBlocks.xs j).fIns.xs m).fOp = 7 → (nth (nth (nth p.fFuncs.xs i).fBlocks.xs j).fIns.xs m).fDst ∈ k.K i := fun h => by
      rw [hkK]
      have := hI.dst.1 (by omega)
      exact dst_made hjl hml (by omega)
    have hgo : ∀ s2, FW (xHi Cf) k (fqI p (xHi Cf) i (nth (nth (nth p.fFuncs.xs i).fBlocks.xs j).fIns.xs m)) s1 s2 → FW (xHi Cf) k (fqP p (xHi Cf) i ++ fqF p (xHi Cf) i j ++ ((nth (nth p.fFuncs.xs i).fBlocks.xs j).fIns.xs.take (m + 1)).flatMap (fqI p (xHi Cf) i)) s s2 := fun s2 h => by
      rw [flat_takeN hml, ← List.append_assoc]
      exact hW.trans h
    have hm1 : m + 1 ≤ (nth (nth p.fFuncs.xs i).fBlocks.xs j).fIns.xs.length := by omega
    have hal0 := hBk.ia m hml
    (repeat' (first | refine s_move ?_ | refine s_assign ?_ | refine s_nil ?_ | (refine k_C ?_; first | refine s_seq ?_ | refine s_region ?_ | refine s_skip ?_ | refine s_block ?_) | (refine k_E ?_; refine e_seq ?_) | (refine k_load ?_; first | refine s_ldB rfl rfl ?_ | refine s_ldSA rfl rfl om rfl ?_) | (refine k_fld ?_; refine s_fldB rfl ?_) | (refine k_idx ?_; refine s_idxS rfl rfl om ?_) | (refine k_store ?_; refine s_stW _ rfl rfl ?_) | (refine k_call ?_; refine s_len rfl ?_) | (refine s_alloc ?_; intro b)))
    obtain ⟨b34, rfl⟩ : ∃ q, q = b := ⟨_, rfl⟩
    refine s_loop (σ := Nat × Bool × Bool) (fun q => [(3, .pointer (some ⟨b3, 0, none⟩)), (4, .pointer (some ⟨b4, 0, none⟩)), (6, .pointer (some ⟨b6, 0, none⟩)), (7, .pointer (some ⟨k.b, 0, none⟩)), (8, .bool S.a), (9, .slice (some ⟨b9, 0, none⟩) p.fArrays.xs.length p.fArrays.xs.length), (18, .pointer (some ⟨b18, 0, none⟩)), (19, .pointer (some ⟨b19, 0, none⟩)), (20, .pointer (some ⟨b20, 0, none⟩)), (21, .int .i64 (P : Nat)), (26, .int .i64 (n : Nat)), (165, .slice p.fFuncs.A p.fFuncs.xs.length p.fFuncs.c), (166, .int .i64 p.fFuncs.xs.length), (167, .int .i64 (i : Nat)), (27, .pointer (some ⟨b27, 0, none⟩)), (28, .pointer (some ⟨b28, 0, none⟩)), (29, (.func (.func 30) #[] #[.pointer (some ⟨b18, 0, none⟩), .pointer (some ⟨b20, 0, none⟩), .pointer (some ⟨b27, 0, none⟩), .pointer (some ⟨k.b, 0, none⟩)])), (30, .slice A3 (nth p.fFuncs.xs i).fBlocks.xs.length c3), (176, .slice (nth p.fFuncs.xs i).fBlocks.A (nth p.fFuncs.xs i).fBlocks.xs.length (nth p.fFuncs.xs i).fBlocks.c), (177, .int .i64 (nth p.fFuncs.xs i).fBlocks.xs.length), (178, .int .i64 (j : Nat)), (31, .int .i64 (j : Nat)), (32, .pointer (some ⟨b32, 0, none⟩)), (189, .slice (nth (nth p.fFuncs.xs i).fBlocks.xs j).fIns.A (nth (nth p.fFuncs.xs i).fBlocks.xs j).fIns.xs.length (nth (nth p.fFuncs.xs i).fBlocks.xs j).fIns.c), (190, .int .i64 (nth (nth p.fFuncs.xs i).fBlocks.xs j).fIns.xs.length), (191, .int .i64 (m : Nat)), (34, .pointer (some ⟨b34, 0, none⟩)), (196, .slice (nth (nth (nth p.fFuncs.xs i).fBlocks.xs j).fIns.xs m).fArgs.A (nth (nth (nth p.fFuncs.xs i).fBlocks.xs j).fIns.xs m).fArgs.xs.length (nth (nth (nth p.fFuncs.xs i).fBlocks.xs j).fIns.xs m).fArgs.c), (197, .int .i64 (nth (nth (nth p.fFuncs.xs i).fBlocks.xs j).fIns.xs m).fArgs.xs.length), (198, .int .i64 (q.1 : Nat)), (35, .bool q.2.1), (36, .bool q.2.2)]) (fun _ => [var 60 b34 (nth (nth (nth p.fFuncs.xs i).fBlocks.xs j).fIns.xs m), var 55 b32 (nth (nth p.fFuncs.xs i).fBlocks.xs j), own 4 A3 (nth p.fFuncs.xs i).fBlocks.xs.length c3 (reachB7 (nth p.fFuncs.xs i)), var 46 b28 (nth p.fFuncs.xs i), var 3 b27 (i : Int), bagG EB 3 (fun j => (k.K j).length) k.n k.mv s1.V, var 40 k.b (⟨k.xv, ⟨k.Aa, k.ca, s1.A⟩, ⟨k.Ar, k.cr, s1.Rt⟩⟩ : Palingslaw12Facts), own 29 k.xv.A k.xv.xs.length k.xv.c k.xv.xs, own 4 k.Aa s1.A.length k.ca s1.A, own 4 k.Ar s1.Rt.length k.cr s1.Rt, var 4 b18 true, var 87 b20 (Fv.fn 29 [.pointer (some ⟨b4, 0, none⟩)]), var 26 b4 cut, own 4 (some ⟨b9, 0, none⟩) p.fArrays.xs.length p.fArrays.xs.length S.W, var 25 b3 p, var 40 b6 (Enc.dflt : Palingslaw12Facts), var 40 b19 (⟨k.xv, ⟨k.Aa, k.ca, s1.A⟩, ⟨k.Ar, k.cr, s1.Rt⟩⟩ : Palingslaw12Facts)])
      (fun q => q.1 ≤ (nth (nth (nth p.fFuncs.xs i).fBlocks.xs j).fIns.xs m).fArgs.xs.length ∧ q.2.1 = anyF i ((nth (nth (nth p.fFuncs.xs i).fBlocks.xs j).fIns.xs m).fArgs.xs.take q.1) (memF s1) ∧ q.2.2 = anyF i ((nth (nth (nth p.fFuncs.xs i).fBlocks.xs j).fIns.xs m).fArgs.xs.take q.1) (memF s1)) (fun q => (nth (nth (nth p.fFuncs.xs i).fBlocks.xs j).fIns.xs m).fArgs.xs.length - q.1) (0, false, false) (by repeat (first | exact trivial | refine ⟨rfl, ?_⟩)) ⟨Nat.zero_le _, rfl, rfl⟩ PSub.refl ?_
    rintro g8 ⟨a, any, sure⟩ ⟨ha, hany, hsure⟩
    dsimp only at ha hany hsure ⊢
    (repeat' (first | refine s_nil ?_ | (refine k_C ?_; first | refine s_seq ?_ | refine s_region ?_) | (refine k_E ?_; refine e_seq ?_) | (refine k_bin ?_; refine s_lss rfl rfl ?_)))
    (first | (refine k_C ?_; (refine s_ifd rfl ?_ ?_ <;> intro hc <;> try (exfalso; omega))))
    ·
      --{
      have hail : a < (nth (nth (nth p.fFuncs.xs i).fBlocks.xs j).fIns.xs m).fArgs.xs.length := by omega
      have hany1 : ∀ v, v = memF s1 (0, i, nth (nth (nth (nth p.fFuncs.xs i).fBlocks.xs j).fIns.xs m).fArgs.xs a) → (any || v) = anyF i ((nth (nth (nth p.fFuncs.xs i).fBlocks.xs j).fIns.xs m).fArgs.xs.take (a + 1)) (memF s1) := fun v hv => by rw [anyF_succ hail, ← hany, hv]
      have hsure1 : ∀ v, v = memF s1 (0, i, nth (nth (nth (nth p.fFuncs.xs i).fBlocks.xs j).fIns.xs m).fArgs.xs a) → (sure || v) = anyF i ((nth (nth (nth p.fFuncs.xs i).fBlocks.xs j).fIns.xs m).fArgs.xs.take (a + 1)) (memF s1) := fun v hv => by rw [anyF_succ hail, ← hsure, hv]
      have ha1 : a + 1 ≤ (nth (nth (nth p.fFuncs.xs i).fBlocks.xs j).fIns.xs m).fArgs.xs.length := by omega
      cases any with
      | true =>
        cases sure with
        | true =>
          (repeat' (first | refine s_move ?_ | refine s_assign ?_ | refine s_nil ?_ | (refine k_C ?_; first | refine s_seq ?_ | refine s_region ?_ | refine s_skip ?_ | refine s_block ?_) | (refine k_E ?_; first | refine e_seq ?_ | refine e_bk ?_) | (refine k_load ?_; refine s_ldS rfl rfl om rfl ?_) | (refine k_bin ?_; refine s_add1 rfl rfl om ?_) | (refine k_idx ?_; refine s_idxS rfl rfl om ?_) | (refine k_guard ?_; refine s_off rfl rfl rfl rfl ?_) | refine s_pick rfl ?_))
          exact e_lp (a + 1, true, true) (by repeat (first | exact trivial | refine ⟨rfl, ?_⟩)) ⟨ha1, hany1 _ rfl, hsure1 _ rfl⟩ (by show _ - _ < _ - _; omega) PSub.refl
        | false =>
          (repeat' (first | refine s_move ?_ | refine s_assign ?_ | refine s_nil ?_ | (refine k_C ?_; first | refine s_seq ?_ | refine s_region ?_ | refine s_skip ?_ | refine s_block ?_) | (refine k_E ?_; refine e_seq ?_) | (refine k_load ?_; first | refine s_ldB rfl rfl ?_ | refine s_ld rfl om rfl ?_ | refine s_ldS rfl rfl om rfl ?_) | (refine k_fld ?_; refine s_fldB rfl ?_) | (refine k_idx ?_; first | refine s_idx rfl rfl om ?_ | refine s_idxS rfl rfl om ?_) | (refine k_guard ?_; first | refine s_on rfl rfl ?_ | refine s_off rfl rfl rfl rfl ?_) | refine s_pick rfl ?_))
          refine s_lookG (k := k.n) 5 rfl hik hvb rfl rfl ?_
          (repeat' (first | refine s_move ?_ | refine s_assign ?_ | refine s_nil ?_ | (refine k_C ?_; refine s_region ?_) | (refine k_E ?_; first | refine e_seq ?_ | refine e_bk ?_) | (refine k_bin ?_; refine s_add1 rfl rfl om ?_) | refine s_pick rfl ?_))
          exact e_lp (a + 1, true, _) (by repeat (first | exact trivial | refine ⟨rfl, ?_⟩)) ⟨ha1, hany1 _ rfl, hsure1 _ rfl⟩ (by show _ - _ < _ - _; omega) PSub.refl
      | false =>
        cases sure with
        | true =>
          (repeat' (first | refine s_move ?_ | refine s_assign ?_ | refine s_nil ?_ | (refine k_C ?_; first | refine s_seq ?_ | refine s_region ?_ | refine s_skip ?_ | refine s_block ?_) | (refine k_E ?_; refine e_seq ?_) | (refine k_load ?_; first | refine s_ldB rfl rfl ?_ | refine s_ld rfl om rfl ?_ | refine s_ldS rfl rfl om rfl ?_) | (refine k_fld ?_; refine s_fldB rfl ?_) | (refine k_idx ?_; first | refine s_idx rfl rfl om ?_ | refine s_idxS rfl rfl om ?_) | (refine k_guard ?_; refine s_on rfl rfl ?_)))
          refine s_lookG (k := k.n) 5 rfl hik hvb rfl rfl ?_
          (repeat' (first | refine s_move ?_ | refine s_assign ?_ | refine s_nil ?_ | (refine k_C ?_; refine s_region ?_) | (refine k_E ?_; first | refine e_seq ?_ | refine e_bk ?_) | (refine k_bin ?_; refine s_add1 rfl rfl om ?_) | (refine k_guard ?_; refine s_off rfl rfl rfl rfl ?_) | refine s_pick rfl ?_))
          exact e_lp (a + 1, _, true) (by repeat (first | exact trivial | refine ⟨rfl, ?_⟩)) ⟨ha1, hany1 _ rfl, hsure1 _ rfl⟩ (by show _ - _ < _ - _; omega) PSub.refl
        | false =>
          (repeat' (first | refine s_move ?_ | refine s_assign ?_ | refine s_nil ?_ | (refine k_C ?_; first | refine s_seq ?_ | refine s_region ?_ | refine s_skip ?_ | refine s_block ?_) | (refine k_E ?_; refine e_seq ?_) | (refine k_load ?_; first | refine s_ldB rfl rfl ?_ | refine s_ld rfl om rfl ?_ | refine s_ldS rfl rfl om rfl ?_) | (refine k_fld ?_; refine s_fldB rfl ?_) | (refine k_idx ?_; first | refine s_idx rfl rfl om ?_ | refine s_idxS rfl rfl om ?_) | (refine k_guard ?_; refine s_on rfl rfl ?_)))
          refine s_lookG (k := k.n) 5 rfl hik hvb rfl rfl ?_
          (repeat' (first | refine s_move ?_ | refine s_assign ?_ | refine s_nil ?_ | (refine k_C ?_; refine s_region ?_) | (refine k_E ?_; refine e_seq ?_) | (refine k_load ?_; first | refine s_ldB rfl rfl ?_ | refine s_ld rfl om rfl ?_) | (refine k_fld ?_; refine s_fldB rfl ?_) | (refine k_idx ?_; refine s_idx rfl rfl om ?_) | (refine k_guard ?_; refine s_on rfl rfl ?_) | refine s_pick rfl ?_))
          refine s_lookG (k := k.n) 5 rfl hik hvb rfl rfl ?_
          (repeat' (first | refine s_move ?_ | refine s_assign ?_ | refine s_nil ?_ | (refine k_C ?_; refine s_region ?_) | (refine k_E ?_; first | refine e_seq ?_ | refine e_bk ?_) | (refine k_bin ?_; refine s_add1 rfl rfl om ?_) | refine s_pick rfl ?_))
          exact e_lp (a + 1, _, _) (by repeat (first | exact trivial | refine ⟨rfl, ?_⟩)) ⟨ha1, hany1 _ rfl, hsure1 _ rfl⟩ (by show _ - _ < _ - _; omega) PSub.refl
      --}
    have haE : a = (nth (nth (nth p.fFuncs.xs i).fBlocks.xs j).fIns.xs m).fArgs.xs.length := by omega
    subst haE
    rw [List.take_length] at hany hsure
    (repeat' (first | refine s_move ?_ | refine s_assign ?_ | refine s_nil ?_ | (refine k_C ?_; first | refine s_seq ?_ | refine s_region ?_ | refine s_skip ?_ | refine s_block ?_ | refine s_exit ?_ | (refine s_ifd rfl ?_ ?_ <;> intro hc <;> try (exfalso; omega))) | (refine k_E ?_; first | refine e_seq ?_ | refine e_seq_exit ?_ | refine e_bk_exit ?_ | refine e_bk ?_ | refine e_lp_exit ?_) | (refine k_load ?_; first | refine s_ldB rfl rfl ?_ | refine s_ldS rfl rfl om rfl ?_ | refine s_ldSF rfl rfl om rfl ?_) | (refine k_bin ?_; first | refine s_add1 rfl rfl om ?_ | refine s_eql rfl rfl ?_) | (refine k_fld ?_; first | refine s_fld rfl ?_ | refine s_fldB rfl ?_) | (refine k_idx ?_; first | refine s_idxS rfl rfl om ?_ | refine s_idxSI rfl rfl om om ?_) | (refine k_call ?_; refine s_len rfl ?_) | (refine k_guard ?_; first | refine s_off rfl rfl rfl rfl ?_ | refine s_offU rfl rfl rfl rfl ?_) | refine s_not rfl ?_ | refine s_pick rfl ?_))
    ·
      --{
      have ho : (nth (nth (nth p.fFuncs.xs i).fBlocks.xs j).fIns.xs m).fOp = 2 := by assumption
      have hd := hdst (by omega)
      refine s_callV (L2 := [var 60 b34 (nth (nth (nth p.fFuncs.xs i).fBlocks.xs j).fIns.xs m), var 55 b32 (nth (nth p.fFuncs.xs i).fBlocks.xs j), own 4 A3 (nth p.fFuncs.xs i).fBlocks.xs.length c3 (reachB7 (nth p.fFuncs.xs i)), var 46 b28 (nth p.fFuncs.xs i), own 4 k.Aa s1.A.length k.ca s1.A, own 4 k.Ar s1.Rt.length k.cr s1.Rt, own 4 (some ⟨b9, 0, none⟩) p.fArrays.xs.length p.fArrays.xs.length S.W, var 25 b3 p, var 40 b6 (Enc.dflt : Palingslaw12Facts), var 40 b19 (⟨k.xv, ⟨k.Aa, k.ca, s1.A⟩, ⟨k.Ar, k.cr, s1.Rt⟩⟩ : Palingslaw12Facts)]) [10, 10, 4, 9, 5, 5, 4] (captured := [.pointer (some ⟨b18, 0, none⟩), .pointer (some ⟨b20, 0, none⟩), .pointer (some ⟨b27, 0, none⟩), .pointer (some ⟨k.b, 0, none⟩)]) rfl (set_spec k hkOk s1 hW.ok b4 b18 b20 b27 true cut Nc Cf hCo i hik (nth (nth (nth p.fFuncs.xs i).fBlocks.xs j).fIns.xs m).fDst hd hdw _ _) rfl rfl (fun w1 f1 C => RdCut.lasts cut Nc Cf _ _ _ _ hRC (C.st.ok C.fp)) ?_
      rintro r L' rfl
      (repeat' (first | refine s_move ?_ | refine s_nil ?_ | (refine k_C ?_; refine s_region ?_) | (refine k_E ?_; first | refine e_seq ?_ | refine e_bk ?_) | (refine k_bin ?_; refine s_add1 rfl rfl om ?_)))
      refine e_lp (m + 1, setS s1 (cutB Cf) true i (nth (nth (nth p.fFuncs.xs i).fBlocks.xs j).fIns.xs m).fDst any sure) (by repeat (first | exact trivial | refine ⟨rfl, ?_⟩)) ⟨hm1, hgo _ ?_⟩ (by show _ - _ < _ - _; omega) (PSub.take [8, 8, 8, 2, 5, 3, 3, 4, 4, 0, 0, 0, 1, 1, 1, 1] (by kernel_rfl))
      unfold fqI
      rw [if_pos ho]
      exact FW.setV (x := (xHi Cf)) hW.ok hd hany hsure
      --}
    ·
      --{
      have ho : (nth (nth (nth p.fFuncs.xs i).fBlocks.xs j).fIns.xs m).fOp = 3 := by assumption
      have hd := hdst (by omega)
      have ha2 := harr (by omega)
      cases any with
      | true =>
        cases sure with
        | true =>
          refine s_tail (F := ?F70ga) 24 [0, 1, 2, 3, 4, 5, 6, 7, 8, 9, 10, 11, 12, 13, 14, 15, 16, 17, 18, 19, 20, 21, 22, 23] foI (by kernel_rfl) ?hr70ga ?hn70ga
          case hr70ga =>
            change sO _ _ _ _ _ _ (_ :: _ :: _ :: _ :: _ :: _ :: _ :: _ :: _ :: _ :: _ :: _ :: _ :: _ :: _ :: _ :: _ :: _ :: _ :: _ :: _ :: _ :: _ :: _ :: []) _ _ _
            (repeat' (first | refine s_move ?_ | refine s_nil ?_ | (refine k_load ?_; refine s_ldB rfl rfl ?_) | (refine k_fld ?_; refine s_fldB rfl ?_) | (refine k_guard ?_; refine s_off rfl rfl rfl rfl ?_) | refine s_pick rfl ?_))
            exact e_F
          case hn70ga =>
            change sO _ _ _ _ _ _ (_ :: []) _ _ _
            refine s_callV (L2 := [var 60 b34 (nth (nth (nth p.fFuncs.xs i).fBlocks.xs j).fIns.xs m), var 55 b32 (nth (nth p.fFuncs.xs i).fBlocks.xs j), own 4 A3 (nth p.fFuncs.xs i).fBlocks.xs.length c3 (reachB7 (nth p.fFuncs.xs i)), var 46 b28 (nth p.fFuncs.xs i), own 4 k.Aa s1.A.length k.ca s1.A, own 4 k.Ar s1.Rt.length k.cr s1.Rt, own 4 (some ⟨b9, 0, none⟩) p.fArrays.xs.length p.fArrays.xs.length S.W, var 25 b3 p, var 40 b6 (Enc.dflt : Palingslaw12Facts), var 40 b19 (⟨k.xv, ⟨k.Aa, k.ca, s1.A⟩, ⟨k.Ar, k.cr, s1.Rt⟩⟩ : Palingslaw12Facts)]) [10, 10, 4, 9, 5, 5, 4] (captured := [.pointer (some ⟨b18, 0, none⟩), .pointer (some ⟨b20, 0, none⟩), .pointer (some ⟨b27, 0, none⟩), .pointer (some ⟨k.b, 0, none⟩)]) rfl (set_spec k hkOk s1 hW.ok b4 b18 b20 b27 true cut Nc Cf hCo i hik (nth (nth (nth p.fFuncs.xs i).fBlocks.xs j).fIns.xs m).fDst hd hdw _ _) rfl rfl (fun w1 f1 C => RdCut.lasts cut Nc Cf _ _ _ _ hRC (C.st.ok C.fp)) ?_
            rintro r L' rfl
            (repeat' (first | refine s_move ?_ | refine s_nil ?_ | (refine k_C ?_; refine s_region ?_) | (refine k_E ?_; first | refine e_seq ?_ | refine e_bk ?_) | (refine k_bin ?_; refine s_add1 rfl rfl om ?_)))
            refine e_lp (m + 1, setS s1 (cutB Cf) true i (nth (nth (nth p.fFuncs.xs i).fBlocks.xs j).fIns.xs m).fDst true true) (by repeat (first | exact trivial | refine ⟨rfl, ?_⟩)) ⟨hm1, hgo _ ?_⟩ (by show _ - _ < _ - _; omega) (PSub.take [8, 8, 8, 2, 5, 3, 3, 4, 4, 0, 0, 0, 1, 1, 1, 1] (by kernel_rfl))
            unfold fqI
            rw [if_neg (by omega), if_pos (by omega)]
            refine FW.setV (x := (xHi Cf)) hW.ok hd ?_ ?_
            · show _ = (anyF i (nth (nth (nth p.fFuncs.xs i).fBlocks.xs j).fIns.xs m).fArgs.xs (memF s1) || mayF (xHi Cf) (nth (nth (nth p.fFuncs.xs i).fBlocks.xs j).fIns.xs m) || memF s1 (1, (nth (nth (nth p.fFuncs.xs i).fBlocks.xs j).fIns.xs m).fArr.toNat, 0))
              rw [← hany, hmay]
              rfl
            · show _ = (anyF i (nth (nth (nth p.fFuncs.xs i).fBlocks.xs j).fIns.xs m).fArgs.xs (memF s1) || memF s1 (1, (nth (nth (nth p.fFuncs.xs i).fBlocks.xs j).fIns.xs m).fArr.toNat, 0))
              rw [← hsure]
              rfl
        | false =>
          refine s_tail (F := ?F70gb) 24 [0, 1, 2, 3, 4, 5, 6, 7, 8, 9, 10, 11, 12, 13, 14, 15, 16, 17, 18, 19, 20, 21, 22, 23] foI (by kernel_rfl) ?hr70gb ?hn70gb
          case hr70gb =>
            change sO _ _ _ _ _ _ (_ :: _ :: _ :: _ :: _ :: _ :: _ :: _ :: _ :: _ :: _ :: _ :: _ :: _ :: _ :: _ :: _ :: _ :: _ :: _ :: _ :: _ :: _ :: _ :: []) _ _ _
            (repeat' (first | refine s_move ?_ | refine s_nil ?_ | (refine k_load ?_; first | refine s_ldB rfl rfl ?_ | refine s_ld rfl om rfl ?_) | (refine k_fld ?_; refine s_fldB rfl ?_) | (refine k_idx ?_; refine s_idxI rfl rfl om om ?_) | (refine k_guard ?_; first | refine s_on rfl rfl ?_ | refine s_off rfl rfl rfl rfl ?_) | refine s_pick rfl ?_))
            exact e_F
          case hn70gb =>
            change sO _ _ _ _ _ _ (_ :: []) _ _ _
            refine s_callV (L2 := [var 60 b34 (nth (nth (nth p.fFuncs.xs i).fBlocks.xs j).fIns.xs m), var 55 b32 (nth (nth p.fFuncs.xs i).fBlocks.xs j), own 4 A3 (nth p.fFuncs.xs i).fBlocks.xs.length c3 (reachB7 (nth p.fFuncs.xs i)), var 46 b28 (nth p.fFuncs.xs i), own 4 k.Aa s1.A.length k.ca s1.A, own 4 k.Ar s1.Rt.length k.cr s1.Rt, own 4 (some ⟨b9, 0, none⟩) p.fArrays.xs.length p.fArrays.xs.length S.W, var 25 b3 p, var 40 b6 (Enc.dflt : Palingslaw12Facts), var 40 b19 (⟨k.xv, ⟨k.Aa, k.ca, s1.A⟩, ⟨k.Ar, k.cr, s1.Rt⟩⟩ : Palingslaw12Facts)]) [10, 10, 4, 9, 5, 5, 4] (captured := [.pointer (some ⟨b18, 0, none⟩), .pointer (some ⟨b20, 0, none⟩), .pointer (some ⟨b27, 0, none⟩), .pointer (some ⟨k.b, 0, none⟩)]) rfl (set_spec k hkOk s1 hW.ok b4 b18 b20 b27 true cut Nc Cf hCo i hik (nth (nth (nth p.fFuncs.xs i).fBlocks.xs j).fIns.xs m).fDst hd hdw _ _) rfl rfl (fun w1 f1 C => RdCut.lasts cut Nc Cf _ _ _ _ hRC (C.st.ok C.fp)) ?_
            rintro r L' rfl
            (repeat' (first | refine s_move ?_ | refine s_nil ?_ | (refine k_C ?_; refine s_region ?_) | (refine k_E ?_; first | refine e_seq ?_ | refine e_bk ?_) | (refine k_bin ?_; refine s_add1 rfl rfl om ?_)))
            refine e_lp (m + 1, setS s1 (cutB Cf) true i (nth (nth (nth p.fFuncs.xs i).fBlocks.xs j).fIns.xs m).fDst true (nth s1.A (nth (nth (nth p.fFuncs.xs i).fBlocks.xs j).fIns.xs m).fArr.toNat)) (by repeat (first | exact trivial | refine ⟨rfl, ?_⟩)) ⟨hm1, hgo _ ?_⟩ (by show _ - _ < _ - _; omega) (PSub.take [8, 8, 8, 2, 5, 3, 3, 4, 4, 0, 0, 0, 1, 1, 1, 1] (by kernel_rfl))
            unfold fqI
            rw [if_neg (by omega), if_pos (by omega)]
            refine FW.setV (x := (xHi Cf)) hW.ok hd ?_ ?_
            · show _ = (anyF i (nth (nth (nth p.fFuncs.xs i).fBlocks.xs j).fIns.xs m).fArgs.xs (memF s1) || mayF (xHi Cf) (nth (nth (nth p.fFuncs.xs i).fBlocks.xs j).fIns.xs m) || memF s1 (1, (nth (nth (nth p.fFuncs.xs i).fBlocks.xs j).fIns.xs m).fArr.toNat, 0))
              rw [← hany, hmay]
              rfl
            · show _ = (anyF i (nth (nth (nth p.fFuncs.xs i).fBlocks.xs j).fIns.xs m).fArgs.xs (memF s1) || memF s1 (1, (nth (nth (nth p.fFuncs.xs i).fBlocks.xs j).fIns.xs m).fArr.toNat, 0))
              rw [← hsure]
              rfl
      | false =>
        cases sure with
        | true =>
          refine s_tail (F := ?F70gc) 24 [0, 1, 2, 3, 4, 5, 6, 7, 8, 9, 10, 11, 12, 13, 14, 15, 16, 17, 18, 19, 20, 21, 22, 23] foI (by kernel_rfl) ?hr70gc ?hn70gc
          case hr70gc =>
            change sO _ _ _ _ _ _ (_ :: _ :: _ :: _ :: _ :: _ :: _ :: _ :: _ :: _ :: _ :: _ :: _ :: _ :: _ :: _ :: _ :: _ :: _ :: _ :: _ :: _ :: _ :: _ :: []) _ _ _
            (repeat' (first | refine s_move ?_ | refine s_nil ?_ | (refine k_load ?_; first | refine s_ldB rfl rfl ?_ | refine s_ld rfl om rfl ?_) | (refine k_fld ?_; refine s_fldB rfl ?_) | (refine k_idx ?_; refine s_idxI rfl rfl om om ?_) | (refine k_guard ?_; first | refine s_on rfl rfl ?_ | refine s_off rfl rfl rfl rfl ?_) | refine s_pick rfl ?_))
            exact e_F
          case hn70gc =>
            change sO _ _ _ _ _ _ (_ :: []) _ _ _
            refine s_callV (L2 := [var 60 b34 (nth (nth (nth p.fFuncs.xs i).fBlocks.xs j).fIns.xs m), var 55 b32 (nth (nth p.fFuncs.xs i).fBlocks.xs j), own 4 A3 (nth p.fFuncs.xs i).fBlocks.xs.length c3 (reachB7 (nth p.fFuncs.xs i)), var 46 b28 (nth p.fFuncs.xs i), own 4 k.Aa s1.A.length k.ca s1.A, own 4 k.Ar s1.Rt.length k.cr s1.Rt, own 4 (some ⟨b9, 0, none⟩) p.fArrays.xs.length p.fArrays.xs.length S.W, var 25 b3 p, var 40 b6 (Enc.dflt : Palingslaw12Facts), var 40 b19 (⟨k.xv, ⟨k.Aa, k.ca, s1.A⟩, ⟨k.Ar, k.cr, s1.Rt⟩⟩ : Palingslaw12Facts)]) [10, 10, 4, 9, 5, 5, 4] (captured := [.pointer (some ⟨b18, 0, none⟩), .pointer (some ⟨b20, 0, none⟩), .pointer (some ⟨b27, 0, none⟩), .pointer (some ⟨k.b, 0, none⟩)]) rfl (set_spec k hkOk s1 hW.ok b4 b18 b20 b27 true cut Nc Cf hCo i hik (nth (nth (nth p.fFuncs.xs i).fBlocks.xs j).fIns.xs m).fDst hd hdw _ _) rfl rfl (fun w1 f1 C => RdCut.lasts cut Nc Cf _ _ _ _ hRC (C.st.ok C.fp)) ?_
            rintro r L' rfl
            (repeat' (first | refine s_move ?_ | refine s_nil ?_ | (refine k_C ?_; refine s_region ?_) | (refine k_E ?_; first | refine e_seq ?_ | refine e_bk ?_) | (refine k_bin ?_; refine s_add1 rfl rfl om ?_)))
            refine e_lp (m + 1, setS s1 (cutB Cf) true i (nth (nth (nth p.fFuncs.xs i).fBlocks.xs j).fIns.xs m).fDst (nth s1.A (nth (nth (nth p.fFuncs.xs i).fBlocks.xs j).fIns.xs m).fArr.toNat) true) (by repeat (first | exact trivial | refine ⟨rfl, ?_⟩)) ⟨hm1, hgo _ ?_⟩ (by show _ - _ < _ - _; omega) (PSub.take [8, 8, 8, 2, 5, 3, 3, 4, 4, 0, 0, 0, 1, 1, 1, 1] (by kernel_rfl))
            unfold fqI
            rw [if_neg (by omega), if_pos (by omega)]
            refine FW.setV (x := (xHi Cf)) hW.ok hd ?_ ?_
            · show _ = (anyF i (nth (nth (nth p.fFuncs.xs i).fBlocks.xs j).fIns.xs m).fArgs.xs (memF s1) || mayF (xHi Cf) (nth (nth (nth p.fFuncs.xs i).fBlocks.xs j).fIns.xs m) || memF s1 (1, (nth (nth (nth p.fFuncs.xs i).fBlocks.xs j).fIns.xs m).fArr.toNat, 0))
              rw [← hany, hmay]
              rfl
            · show _ = (anyF i (nth (nth (nth p.fFuncs.xs i).fBlocks.xs j).fIns.xs m).fArgs.xs (memF s1) || memF s1 (1, (nth (nth (nth p.fFuncs.xs i).fBlocks.xs j).fIns.xs m).fArr.toNat, 0))
              rw [← hsure]
              rfl
        | false =>
          refine s_tail (F := ?F70gd) 24 [0, 1, 2, 3, 4, 5, 6, 7, 8, 9, 10, 11, 12, 13, 14, 15, 16, 17, 18, 19, 20, 21, 22, 23] foI (by kernel_rfl) ?hr70gd ?hn70gd
          case hr70gd =>
            change sO _ _ _ _ _ _ (_ :: _ :: _ :: _ :: _ :: _ :: _ :: _ :: _ :: _ :: _ :: _ :: _ :: _ :: _ :: _ :: _ :: _ :: _ :: _ :: _ :: _ :: _ :: _ :: []) _ _ _
            (repeat' (first | refine s_move ?_ | refine s_nil ?_ | (refine k_load ?_; first | refine s_ldB rfl rfl ?_ | refine s_ld rfl om rfl ?_) | (refine k_fld ?_; refine s_fldB rfl ?_) | (refine k_idx ?_; refine s_idxI rfl rfl om om ?_) | (refine k_guard ?_; refine s_on rfl rfl ?_) | refine s_pick rfl ?_))
            exact e_F
          case hn70gd =>
            change sO _ _ _ _ _ _ (_ :: []) _ _ _
            refine s_callV (L2 := [var 60 b34 (nth (nth (nth p.fFuncs.xs i).fBlocks.xs j).fIns.xs m), var 55 b32 (nth (nth p.fFuncs.xs i).fBlocks.xs j), own 4 A3 (nth p.fFuncs.xs i).fBlocks.xs.length c3 (reachB7 (nth p.fFuncs.xs i)), var 46 b28 (nth p.fFuncs.xs i), own 4 k.Aa s1.A.length k.ca s1.A, own 4 k.Ar s1.Rt.length k.cr s1.Rt, own 4 (some ⟨b9, 0, none⟩) p.fArrays.xs.length p.fArrays.xs.length S.W, var 25 b3 p, var 40 b6 (Enc.dflt : Palingslaw12Facts), var 40 b19 (⟨k.xv, ⟨k.Aa, k.ca, s1.A⟩, ⟨k.Ar, k.cr, s1.Rt⟩⟩ : Palingslaw12Facts)]) [10, 10, 4, 9, 5, 5, 4] (captured := [.pointer (some ⟨b18, 0, none⟩), .pointer (some ⟨b20, 0, none⟩), .pointer (some ⟨b27, 0, none⟩), .pointer (some ⟨k.b, 0, none⟩)]) rfl (set_spec k hkOk s1 hW.ok b4 b18 b20 b27 true cut Nc Cf hCo i hik (nth (nth (nth p.fFuncs.xs i).fBlocks.xs j).fIns.xs m).fDst hd hdw _ _) rfl rfl (fun w1 f1 C => RdCut.lasts cut Nc Cf _ _ _ _ hRC (C.st.ok C.fp)) ?_
            rintro r L' rfl
            (repeat' (first | refine s_move ?_ | refine s_nil ?_ | (refine k_C ?_; refine s_region ?_) | (refine k_E ?_; first | refine e_seq ?_ | refine e_bk ?_) | (refine k_bin ?_; refine s_add1 rfl rfl om ?_)))
            refine e_lp (m + 1, setS s1 (cutB Cf) true i (nth (nth (nth p.fFuncs.xs i).fBlocks.xs j).fIns.xs m).fDst (nth s1.A (nth (nth (nth p.fFuncs.xs i).fBlocks.xs j).fIns.xs m).fArr.toNat) (nth s1.A (nth (nth (nth p.fFuncs.xs i).fBlocks.xs j).fIns.xs m).fArr.toNat)) (by repeat (first | exact trivial | refine ⟨rfl, ?_⟩)) ⟨hm1, hgo _ ?_⟩ (by show _ - _ < _ - _; omega) (PSub.take [8, 8, 8, 2, 5, 3, 3, 4, 4, 0, 0, 0, 1, 1, 1, 1] (by kernel_rfl))
            unfold fqI
            rw [if_neg (by omega), if_pos (by omega)]
            refine FW.setV (x := (xHi Cf)) hW.ok hd ?_ ?_
            · show _ = (anyF i (nth (nth (nth p.fFuncs.xs i).fBlocks.xs j).fIns.xs m).fArgs.xs (memF s1) || mayF (xHi Cf) (nth (nth (nth p.fFuncs.xs i).fBlocks.xs j).fIns.xs m) || memF s1 (1, (nth (nth (nth p.fFuncs.xs i).fBlocks.xs j).fIns.xs m).fArr.toNat, 0))
              rw [← hany, hmay]
              rfl
            · show _ = (anyF i (nth (nth (nth p.fFuncs.xs i).fBlocks.xs j).fIns.xs m).fArgs.xs (memF s1) || memF s1 (1, (nth (nth (nth p.fFuncs.xs i).fBlocks.xs j).fIns.xs m).fArr.toNat, 0))
              rw [← hsure]
              rfl
      --}
    ·
      --{
      have ho : (nth (nth (nth p.fFuncs.xs i).fBlocks.xs j).fIns.xs m).fOp = 5 := by assumption
      have hd := hdst (by omega)
      have ha2 := harr (by omega)
      cases any with
      | true =>
        cases sure with
        | true =>
          refine s_tail (F := ?F70la) 24 [0, 1, 2, 3, 4, 5, 6, 7, 8, 9, 10, 11, 12, 13, 14, 15, 16, 17, 18, 19, 20, 21, 22, 23] foI (by kernel_rfl) ?hr70la ?hn70la
          case hr70la =>
            change sO _ _ _ _ _ _ (_ :: _ :: _ :: _ :: _ :: _ :: _ :: _ :: _ :: _ :: _ :: _ :: _ :: _ :: _ :: _ :: _ :: _ :: _ :: _ :: _ :: _ :: _ :: _ :: []) _ _ _
            (repeat' (first | refine s_move ?_ | refine s_nil ?_ | (refine k_load ?_; refine s_ldB rfl rfl ?_) | (refine k_fld ?_; refine s_fldB rfl ?_) | (refine k_guard ?_; refine s_off rfl rfl rfl rfl ?_) | refine s_pick rfl ?_))
            exact e_F
          case hn70la =>
            change sO _ _ _ _ _ _ (_ :: []) _ _ _
            refine s_callV (L2 := [var 60 b34 (nth (nth (nth p.fFuncs.xs i).fBlocks.xs j).fIns.xs m), var 55 b32 (nth (nth p.fFuncs.xs i).fBlocks.xs j), own 4 A3 (nth p.fFuncs.xs i).fBlocks.xs.length c3 (reachB7 (nth p.fFuncs.xs i)), var 46 b28 (nth p.fFuncs.xs i), own 4 k.Aa s1.A.length k.ca s1.A, own 4 k.Ar s1.Rt.length k.cr s1.Rt, own 4 (some ⟨b9, 0, none⟩) p.fArrays.xs.length p.fArrays.xs.length S.W, var 25 b3 p, var 40 b6 (Enc.dflt : Palingslaw12Facts), var 40 b19 (⟨k.xv, ⟨k.Aa, k.ca, s1.A⟩, ⟨k.Ar, k.cr, s1.Rt⟩⟩ : Palingslaw12Facts)]) [10, 10, 4, 9, 5, 5, 4] (captured := [.pointer (some ⟨b18, 0, none⟩), .pointer (some ⟨b20, 0, none⟩), .pointer (some ⟨b27, 0, none⟩), .pointer (some ⟨k.b, 0, none⟩)]) rfl (set_spec k hkOk s1 hW.ok b4 b18 b20 b27 true cut Nc Cf hCo i hik (nth (nth (nth p.fFuncs.xs i).fBlocks.xs j).fIns.xs m).fDst hd hdw _ _) rfl rfl (fun w1 f1 C => RdCut.lasts cut Nc Cf _ _ _ _ hRC (C.st.ok C.fp)) ?_
            rintro r L' rfl
            (repeat' (first | refine s_move ?_ | refine s_nil ?_ | (refine k_C ?_; refine s_region ?_) | (refine k_E ?_; first | refine e_seq ?_ | refine e_bk ?_) | (refine k_bin ?_; refine s_add1 rfl rfl om ?_)))
            refine e_lp (m + 1, setS s1 (cutB Cf) true i (nth (nth (nth p.fFuncs.xs i).fBlocks.xs j).fIns.xs m).fDst true true) (by repeat (first | exact trivial | refine ⟨rfl, ?_⟩)) ⟨hm1, hgo _ ?_⟩ (by show _ - _ < _ - _; omega) (PSub.take [8, 8, 8, 2, 5, 3, 3, 4, 4, 0, 0, 0, 1, 1, 1, 1] (by kernel_rfl))
            unfold fqI
            rw [if_neg (by omega), if_pos (by omega)]
            refine FW.setV (x := (xHi Cf)) hW.ok hd ?_ ?_
            · show _ = (anyF i (nth (nth (nth p.fFuncs.xs i).fBlocks.xs j).fIns.xs m).fArgs.xs (memF s1) || mayF (xHi Cf) (nth (nth (nth p.fFuncs.xs i).fBlocks.xs j).fIns.xs m) || memF s1 (1, (nth (nth (nth p.fFuncs.xs i).fBlocks.xs j).fIns.xs m).fArr.toNat, 0))
              rw [← hany, hmay]
              rfl
            · show _ = (anyF i (nth (nth (nth p.fFuncs.xs i).fBlocks.xs j).fIns.xs m).fArgs.xs (memF s1) || memF s1 (1, (nth (nth (nth p.fFuncs.xs i).fBlocks.xs j).fIns.xs m).fArr.toNat, 0))
              rw [← hsure]
              rfl
        | false =>
          refine s_tail (F := ?F70lb) 24 [0, 1, 2, 3, 4, 5, 6, 7, 8, 9, 10, 11, 12, 13, 14, 15, 16, 17, 18, 19, 20, 21, 22, 23] foI (by kernel_rfl) ?hr70lb ?hn70lb
          case hr70lb =>
            change sO _ _ _ _ _ _ (_ :: _ :: _ :: _ :: _ :: _ :: _ :: _ :: _ :: _ :: _ :: _ :: _ :: _ :: _ :: _ :: _ :: _ :: _ :: _ :: _ :: _ :: _ :: _ :: []) _ _ _
            (repeat' (first | refine s_move ?_ | refine s_nil ?_ | (refine k_load ?_; first | refine s_ldB rfl rfl ?_ | refine s_ld rfl om rfl ?_) | (refine k_fld ?_; refine s_fldB rfl ?_) | (refine k_idx ?_; refine s_idxI rfl rfl om om ?_) | (refine k_guard ?_; first | refine s_on rfl rfl ?_ | refine s_off rfl rfl rfl rfl ?_) | refine s_pick rfl ?_))
            exact e_F
          case hn70lb =>
            change sO _ _ _ _ _ _ (_ :: []) _ _ _
            refine s_callV (L2 := [var 60 b34 (nth (nth (nth p.fFuncs.xs i).fBlocks.xs j).fIns.xs m), var 55 b32 (nth (nth p.fFuncs.xs i).fBlocks.xs j), own 4 A3 (nth p.fFuncs.xs i).fBlocks.xs.length c3 (reachB7 (nth p.fFuncs.xs i)), var 46 b28 (nth p.fFuncs.xs i), own 4 k.Aa s1.A.length k.ca s1.A, own 4 k.Ar s1.Rt.length k.cr s1.Rt, own 4 (some ⟨b9, 0, none⟩) p.fArrays.xs.length p.fArrays.xs.length S.W, var 25 b3 p, var 40 b6 (Enc.dflt : Palingslaw12Facts), var 40 b19 (⟨k.xv, ⟨k.Aa, k.ca, s1.A⟩, ⟨k.Ar, k.cr, s1.Rt⟩⟩ : Palingslaw12Facts)]) [10, 10, 4, 9, 5, 5, 4] (captured := [.pointer (some ⟨b18, 0, none⟩), .pointer (some ⟨b20, 0, none⟩), .pointer (some ⟨b27, 0, none⟩), .pointer (some ⟨k.b, 0, none⟩)]) rfl (set_spec k hkOk s1 hW.ok b4 b18 b20 b27 true cut Nc Cf hCo i hik (nth (nth (nth p.fFuncs.xs i).fBlocks.xs j).fIns.xs m).fDst hd hdw _ _) rfl rfl (fun w1 f1 C => RdCut.lasts cut Nc Cf _ _ _ _ hRC (C.st.ok C.fp)) ?_
            rintro r L' rfl
            (repeat' (first | refine s_move ?_ | refine s_nil ?_ | (refine k_C ?_; refine s_region ?_) | (refine k_E ?_; first | refine e_seq ?_ | refine e_bk ?_) | (refine k_bin ?_; refine s_add1 rfl rfl om ?_)))
            refine e_lp (m + 1, setS s1 (cutB Cf) true i (nth (nth (nth p.fFuncs.xs i).fBlocks.xs j).fIns.xs m).fDst true (nth s1.A (nth (nth (nth p.fFuncs.xs i).fBlocks.xs j).fIns.xs m).fArr.toNat)) (by repeat (first | exact trivial | refine ⟨rfl, ?_⟩)) ⟨hm1, hgo _ ?_⟩ (by show _ - _ < _ - _; omega) (PSub.take [8, 8, 8, 2, 5, 3, 3, 4, 4, 0, 0, 0, 1, 1, 1, 1] (by kernel_rfl))
            unfold fqI
            rw [if_neg (by omega), if_pos (by omega)]
            refine FW.setV (x := (xHi Cf)) hW.ok hd ?_ ?_
            · show _ = (anyF i (nth (nth (nth p.fFuncs.xs i).fBlocks.xs j).fIns.xs m).fArgs.xs (memF s1) || mayF (xHi Cf) (nth (nth (nth p.fFuncs.xs i).fBlocks.xs j).fIns.xs m) || memF s1 (1, (nth (nth (nth p.fFuncs.xs i).fBlocks.xs j).fIns.xs m).fArr.toNat, 0))
              rw [← hany, hmay]
              rfl
            · show _ = (anyF i (nth (nth (nth p.fFuncs.xs i).fBlocks.xs j).fIns.xs m).fArgs.xs (memF s1) || memF s1 (1, (nth (nth (nth p.fFuncs.xs i).fBlocks.xs j).fIns.xs m).fArr.toNat, 0))
              rw [← hsure]
              rfl
      | false =>
        cases sure with
        | true =>
          refine s_tail (F := ?F70lc) 24 [0, 1, 2, 3, 4, 5, 6, 7, 8, 9, 10, 11, 12, 13, 14, 15, 16, 17, 18, 19, 20, 21, 22, 23] foI (by kernel_rfl) ?hr70lc ?hn70lc
          case hr70lc =>
            change sO _ _ _ _ _ _ (_ :: _ :: _ :: _ :: _ :: _ :: _ :: _ :: _ :: _ :: _ :: _ :: _ :: _ :: _ :: _ :: _ :: _ :: _ :: _ :: _ :: _ :: _ :: _ :: []) _ _ _
            (repeat' (first | refine s_move ?_ | refine s_nil ?_ | (refine k_load ?_; first | refine s_ldB rfl rfl ?_ | refine s_ld rfl om rfl ?_) | (refine k_fld ?_; refine s_fldB rfl ?_) | (refine k_idx ?_; refine s_idxI rfl rfl om om ?_) | (refine k_guard ?_; first | refine s_on rfl rfl ?_ | refine s_off rfl rfl rfl rfl ?_) | refine s_pick rfl ?_))
            exact e_F
          case hn70lc =>
            change sO _ _ _ _ _ _ (_ :: []) _ _ _
            refine s_callV (L2 := [var 60 b34 (nth (nth (nth p.fFuncs.xs i).fBlocks.xs j).fIns.xs m), var 55 b32 (nth (nth p.fFuncs.xs i).fBlocks.xs j), own 4 A3 (nth p.fFuncs.xs i).fBlocks.xs.length c3 (reachB7 (nth p.fFuncs.xs i)), var 46 b28 (nth p.fFuncs.xs i), own 4 k.Aa s1.A.length k.ca s1.A, own 4 k.Ar s1.Rt.length k.cr s1.Rt, own 4 (some ⟨b9, 0, none⟩) p.fArrays.xs.length p.fArrays.xs.length S.W, var 25 b3 p, var 40 b6 (Enc.dflt : Palingslaw12Facts), var 40 b19 (⟨k.xv, ⟨k.Aa, k.ca, s1.A⟩, ⟨k.Ar, k.cr, s1.Rt⟩⟩ : Palingslaw12Facts)]) [10, 10, 4, 9, 5, 5, 4] (captured := [.pointer (some ⟨b18, 0, none⟩), .pointer (some ⟨b20, 0, none⟩), .pointer (some ⟨b27, 0, none⟩), .pointer (some ⟨k.b, 0, none⟩)]) rfl (set_spec k hkOk s1 hW.ok b4 b18 b20 b27 true cut Nc Cf hCo i hik (nth (nth (nth p.fFuncs.xs i).fBlocks.xs j).fIns.xs m).fDst hd hdw _ _) rfl rfl (fun w1 f1 C => RdCut.lasts cut Nc Cf _ _ _ _ hRC (C.st.ok C.fp)) ?_
            rintro r L' rfl
            (repeat' (first | refine s_move ?_ | refine s_nil ?_ | (refine k_C ?_; refine s_region ?_) | (refine k_E ?_; first | refine e_seq ?_ | refine e_bk ?_) | (refine k_bin ?_; refine s_add1 rfl rfl om ?_)))
            refine e_lp (m + 1, setS s1 (cutB Cf) true i (nth (nth (nth p.fFuncs.xs i).fBlocks.xs j).fIns.xs m).fDst (nth s1.A (nth (nth (nth p.fFuncs.xs i).fBlocks.xs j).fIns.xs m).fArr.toNat) true) (by repeat (first | exact trivial | refine ⟨rfl, ?_⟩)) ⟨hm1, hgo _ ?_⟩ (by show _ - _ < _ - _; omega) (PSub.take [8, 8, 8, 2, 5, 3, 3, 4, 4, 0, 0, 0, 1, 1, 1, 1] (by kernel_rfl))
            unfold fqI
            rw [if_neg (by omega), if_pos (by omega)]
            refine FW.setV (x := (xHi Cf)) hW.ok hd ?_ ?_
            · show _ = (anyF i (nth (nth (nth p.fFuncs.xs i).fBlocks.xs j).fIns.xs m).fArgs.xs (memF s1) || mayF (xHi Cf) (nth (nth (nth p.fFuncs.xs i).fBlocks.xs j).fIns.xs m) || memF s1 (1, (nth (nth (nth p.fFuncs.xs i).fBlocks.xs j).fIns.xs m).fArr.toNat, 0))
              rw [← hany, hmay]
              rfl
            · show _ = (anyF i (nth (nth (nth p.fFuncs.xs i).fBlocks.xs j).fIns.xs m).fArgs.xs (memF s1) || memF s1 (1, (nth (nth (nth p.fFuncs.xs i).fBlocks.xs j).fIns.xs m).fArr.toNat, 0))
              rw [← hsure]
              rfl
        | false =>
          refine s_tail (F := ?F70ld) 24 [0, 1, 2, 3, 4, 5, 6, 7, 8, 9, 10, 11, 12, 13, 14, 15, 16, 17, 18, 19, 20, 21, 22, 23] foI (by kernel_rfl) ?hr70ld ?hn70ld
          case hr70ld =>
            change sO _ _ _ _ _ _ (_ :: _ :: _ :: _ :: _ :: _ :: _ :: _ :: _ :: _ :: _ :: _ :: _ :: _ :: _ :: _ :: _ :: _ :: _ :: _ :: _ :: _ :: _ :: _ :: []) _ _ _
            (repeat' (first | refine s_move ?_ | refine s_nil ?_ | (refine k_load ?_; first | refine s_ldB rfl rfl ?_ | refine s_ld rfl om rfl ?_) | (refine k_fld ?_; refine s_fldB rfl ?_) | (refine k_idx ?_; refine s_idxI rfl rfl om om ?_) | (refine k_guard ?_; refine s_on rfl rfl ?_) | refine s_pick rfl ?_))
            exact e_F
          case hn70ld =>
            change sO _ _ _ _ _ _ (_ :: []) _ _ _
            refine s_callV (L2 := [var 60 b34 (nth (nth (nth p.fFuncs.xs i).fBlocks.xs j).fIns.xs m), var 55 b32 (nth (nth p.fFuncs.xs i).fBlocks.xs j), own 4 A3 (nth p.fFuncs.xs i).fBlocks.xs.length c3 (reachB7 (nth p.fFuncs.xs i)), var 46 b28 (nth p.fFuncs.xs i), own 4 k.Aa s1.A.length k.ca s1.A, own 4 k.Ar s1.Rt.length k.cr s1.Rt, own 4 (some ⟨b9, 0, none⟩) p.fArrays.xs.length p.fArrays.xs.length S.W, var 25 b3 p, var 40 b6 (Enc.dflt : Palingslaw12Facts), var 40 b19 (⟨k.xv, ⟨k.Aa, k.ca, s1.A⟩, ⟨k.Ar, k.cr, s1.Rt⟩⟩ : Palingslaw12Facts)]) [10, 10, 4, 9, 5, 5, 4] (captured := [.pointer (some ⟨b18, 0, none⟩), .pointer (some ⟨b20, 0, none⟩), .pointer (some ⟨b27, 0, none⟩), .pointer (some ⟨k.b, 0, none⟩)]) rfl (set_spec k hkOk s1 hW.ok b4 b18 b20 b27 true cut Nc Cf hCo i hik (nth (nth (nth p.fFuncs.xs i).fBlocks.xs j).fIns.xs m).fDst hd hdw _ _) rfl rfl (fun w1 f1 C => RdCut.lasts cut Nc Cf _ _ _ _ hRC (C.st.ok C.fp)) ?_
            rintro r L' rfl
            (repeat' (first | refine s_move ?_ | refine s_nil ?_ | (refine k_C ?_; refine s_region ?_) | (refine k_E ?_; first | refine e_seq ?_ | refine e_bk ?_) | (refine k_bin ?_; refine s_add1 rfl rfl om ?_)))
            refine e_lp (m + 1, setS s1 (cutB Cf) true i (nth (nth (nth p.fFuncs.xs i).fBlocks.xs j).fIns.xs m).fDst (nth s1.A (nth (nth (nth p.fFuncs.xs i).fBlocks.xs j).fIns.xs m).fArr.toNat) (nth s1.A (nth (nth (nth p.fFuncs.xs i).fBlocks.xs j).fIns.xs m).fArr.toNat)) (by repeat (first | exact trivial | refine ⟨rfl, ?_⟩)) ⟨hm1, hgo _ ?_⟩ (by show _ - _ < _ - _; omega) (PSub.take [8, 8, 8, 2, 5, 3, 3, 4, 4, 0, 0, 0, 1, 1, 1, 1] (by kernel_rfl))
            unfold fqI
            rw [if_neg (by omega), if_pos (by omega)]
            refine FW.setV (x := (xHi Cf)) hW.ok hd ?_ ?_
            · show _ = (anyF i (nth (nth (nth p.fFuncs.xs i).fBlocks.xs j).fIns.xs m).fArgs.xs (memF s1) || mayF (xHi Cf) (nth (nth (nth p.fFuncs.xs i).fBlocks.xs j).fIns.xs m) || memF s1 (1, (nth (nth (nth p.fFuncs.xs i).fBlocks.xs j).fIns.xs m).fArr.toNat, 0))
              rw [← hany, hmay]
              rfl
            · show _ = (anyF i (nth (nth (nth p.fFuncs.xs i).fBlocks.xs j).fIns.xs m).fArgs.xs (memF s1) || memF s1 (1, (nth (nth (nth p.fFuncs.xs i).fBlocks.xs j).fIns.xs m).fArr.toNat, 0))
              rw [← hsure]
              rfl
      --}
    ·
      --{
      have ho : (nth (nth (nth p.fFuncs.xs i).fBlocks.xs j).fIns.xs m).fOp = 4 := by assumption
      have hu : (nth (nth (nth p.fFuncs.xs i).fBlocks.xs j).fIns.xs m).fArgs.xs.length = 1 := hnar.2.2 (.inl ho)
      have ha2 := harr (by omega)
      have hai : (nth (nth (nth p.fFuncs.xs i).fBlocks.xs j).fIns.xs m).fArr.toNat < s1.A.length := by omega
      cases hA : nth s1.A (nth (nth (nth p.fFuncs.xs i).fBlocks.xs j).fIns.xs m).fArr.toNat with
      | true =>
        refine s_tail (F := ?F72) 23 [0, 1, 2, 3, 4, 5, 6, 7, 8, 9, 10, 11, 12, 13, 14, 15, 16, 17, 18, 19, 20, 21, 22] foI (by kernel_rfl) ?hr72 ?hn72
        case hr72 =>
          change sO _ _ _ _ _ _ (_ :: _ :: _ :: _ :: _ :: _ :: _ :: _ :: _ :: _ :: _ :: _ :: _ :: _ :: _ :: _ :: _ :: _ :: _ :: _ :: _ :: _ :: _ :: []) _ _ _
          (repeat' (first | refine s_move ?_ | refine s_nil ?_ | (refine k_load ?_; first | refine s_ldB rfl rfl ?_ | refine s_ld rfl om rfl ?_ | refine s_ldS rfl rfl om rfl ?_) | (refine k_fld ?_; refine s_fldB rfl ?_) | (refine k_idx ?_; first | refine s_idx rfl rfl om ?_ | refine s_idxI rfl rfl om om ?_ | refine s_idxS rfl rfl om ?_) | (refine k_guard ?_; first | refine s_on rfl rfl ?_ | refine s_off rfl rfl rfl rfl ?_ | (refine s_cases rfl rfl ?_ ?_ <;> intro hc)) | refine s_pick rfl ?_))
          · exact e_F
          · exact absurd (by assumption : nth s1.A (nth (nth (nth p.fFuncs.xs i).fBlocks.xs j).fIns.xs m).fArr.toNat = false) (by rw [hA]; decide)
        case hn72 =>
          change sO _ _ _ _ _ _ (_ :: []) _ _ _
          (repeat' (first | refine s_move ?_ | refine s_nil ?_ | (refine k_C ?_; refine s_region ?_) | (refine k_E ?_; first | refine e_seq ?_ | refine e_bk ?_) | (refine k_bin ?_; refine s_add1 rfl rfl om ?_) | (refine k_store ?_; refine s_st _ rfl rfl om ?_)))
          refine e_lp (m + 1, putA s1 (nth (nth (nth p.fFuncs.xs i).fBlocks.xs j).fIns.xs m).fArr.toNat true) (by repeat (first | exact trivial | refine ⟨rfl, ?_⟩)) ⟨hm1, hgo _ ?_⟩ (by show _ - _ < _ - _; omega) ((PSub.take (L' := [var 55 b32 (nth (nth p.fFuncs.xs i).fBlocks.xs j), own 4 A3 (nth p.fFuncs.xs i).fBlocks.xs.length c3 (reachB7 (nth p.fFuncs.xs i)), var 46 b28 (nth p.fFuncs.xs i), var 3 b27 (i : Int), bagG EB 3 (fun j => (k.K j).length) k.n k.mv s1.V, var 40 k.b (⟨k.xv, ⟨k.Aa, k.ca, s1.A⟩, ⟨k.Ar, k.cr, s1.Rt⟩⟩ : Palingslaw12Facts), own 29 k.xv.A k.xv.xs.length k.xv.c k.xv.xs, own 4 k.Aa s1.A.length k.ca (s1.A.set (nth (nth (nth p.fFuncs.xs i).fBlocks.xs j).fIns.xs m).fArr.toNat true), own 4 k.Ar s1.Rt.length k.cr s1.Rt, var 4 b18 true, var 87 b20 (Fv.fn 29 [.pointer (some ⟨b4, 0, none⟩)]), var 26 b4 cut, own 4 (some ⟨b9, 0, none⟩) p.fArrays.xs.length p.fArrays.xs.length S.W, var 25 b3 p, var 40 b6 (Enc.dflt : Palingslaw12Facts), var 40 b19 (⟨k.xv, ⟨k.Aa, k.ca, s1.A⟩, ⟨k.Ar, k.cr, s1.Rt⟩⟩ : Palingslaw12Facts)]) [1, 1, 1, 1, 1, 1, 1, 1, 1, 1, 1, 1, 1, 1, 1, 1] (by kernel_rfl)).trans (PSub.eq (by unfold putA; rw [fxA (b := k.b) (xs := s1.A) (ys := s1.A.set (nth (nth (nth p.fFuncs.xs i).fBlocks.xs j).fIns.xs m).fArr.toNat true) List.length_set, fxA (b := b19) (xs := s1.A) (ys := s1.A.set (nth (nth (nth p.fFuncs.xs i).fBlocks.xs j).fIns.xs m).fArr.toNat true) List.length_set, List.length_set] <;> rfl)))
          unfold fqI
          rw [if_neg (by omega), if_neg (by omega), if_pos ho]
          exact FW.arr hW.ok hai (by rw [hA]; rfl)
      | false =>
        refine s_tail (F := ?F72b) 23 [0, 1, 2, 3, 4, 5, 6, 7, 8, 9, 10, 11, 12, 13, 14, 15, 16, 17, 18, 19, 20, 21, 22] foI (by kernel_rfl) ?hr72b ?hn72b
        case hr72b =>
          change sO _ _ _ _ _ _ (_ :: _ :: _ :: _ :: _ :: _ :: _ :: _ :: _ :: _ :: _ :: _ :: _ :: _ :: _ :: _ :: _ :: _ :: _ :: _ :: _ :: _ :: _ :: []) _ _ _
          (repeat' (first | refine s_move ?_ | refine s_nil ?_ | (refine k_load ?_; first | refine s_ldB rfl rfl ?_ | refine s_ld rfl om rfl ?_ | refine s_ldS rfl rfl om rfl ?_) | (refine k_fld ?_; refine s_fldB rfl ?_) | (refine k_idx ?_; first | refine s_idx rfl rfl om ?_ | refine s_idxI rfl rfl om om ?_ | refine s_idxS rfl rfl om ?_) | (refine k_guard ?_; first | refine s_on rfl rfl ?_ | refine s_off rfl rfl rfl rfl ?_ | (refine s_cases rfl rfl ?_ ?_ <;> intro hc)) | refine s_pick rfl ?_))
          · exact absurd (by assumption : nth s1.A (nth (nth (nth p.fFuncs.xs i).fBlocks.xs j).fIns.xs m).fArr.toNat = true) (by rw [hA]; decide)
          refine s_lookG (k := k.n) 5 rfl hik hvb rfl rfl ?_
          (repeat' (first | refine s_nil ?_ | (refine k_idx ?_; refine s_idxI rfl rfl om om ?_) | refine s_pick rfl ?_))
          exact e_F
        case hn72b =>
          change sO _ _ _ _ _ _ (_ :: []) _ _ _
          (repeat' (first | refine s_move ?_ | refine s_nil ?_ | (refine k_C ?_; refine s_region ?_) | (refine k_E ?_; first | refine e_seq ?_ | refine e_bk ?_) | (refine k_bin ?_; refine s_add1 rfl rfl om ?_) | (refine k_store ?_; refine s_st _ rfl rfl om ?_)))
          refine e_lp (m + 1, putA s1 (nth (nth (nth p.fFuncs.xs i).fBlocks.xs j).fIns.xs m).fArr.toNat (memF s1 (0, i, nth (nth (nth (nth p.fFuncs.xs i).fBlocks.xs j).fIns.xs m).fArgs.xs 0))) (by repeat (first | exact trivial | refine ⟨rfl, ?_⟩)) ⟨hm1, hgo _ ?_⟩ (by show _ - _ < _ - _; omega) ((PSub.take (L' := [var 55 b32 (nth (nth p.fFuncs.xs i).fBlocks.xs j), own 4 A3 (nth p.fFuncs.xs i).fBlocks.xs.length c3 (reachB7 (nth p.fFuncs.xs i)), var 46 b28 (nth p.fFuncs.xs i), var 3 b27 (i : Int), bagG EB 3 (fun j => (k.K j).length) k.n k.mv s1.V, var 40 k.b (⟨k.xv, ⟨k.Aa, k.ca, s1.A⟩, ⟨k.Ar, k.cr, s1.Rt⟩⟩ : Palingslaw12Facts), own 29 k.xv.A k.xv.xs.length k.xv.c k.xv.xs, own 4 k.Aa s1.A.length k.ca (s1.A.set (nth (nth (nth p.fFuncs.xs i).fBlocks.xs j).fIns.xs m).fArr.toNat (memF (s1) (0, i, nth ((nth (nth (nth p.fFuncs.xs i).fBlocks.xs j).fIns.xs m).fArgs.xs) 0))), own 4 k.Ar s1.Rt.length k.cr s1.Rt, var 4 b18 true, var 87 b20 (Fv.fn 29 [.pointer (some ⟨b4, 0, none⟩)]), var 26 b4 cut, own 4 (some ⟨b9, 0, none⟩) p.fArrays.xs.length p.fArrays.xs.length S.W, var 25 b3 p, var 40 b6 (Enc.dflt : Palingslaw12Facts), var 40 b19 (⟨k.xv, ⟨k.Aa, k.ca, s1.A⟩, ⟨k.Ar, k.cr, s1.Rt⟩⟩ : Palingslaw12Facts)]) [1, 1, 1, 1, 1, 1, 1, 1, 1, 1, 1, 1, 1, 1, 1, 1] (by kernel_rfl)).trans (PSub.eq (by unfold putA; rw [fxA (b := k.b) (xs := s1.A) (ys := s1.A.set (nth (nth (nth p.fFuncs.xs i).fBlocks.xs j).fIns.xs m).fArr.toNat (memF (s1) (0, i, nth ((nth (nth (nth p.fFuncs.xs i).fBlocks.xs j).fIns.xs m).fArgs.xs) 0))) List.length_set, fxA (b := b19) (xs := s1.A) (ys := s1.A.set (nth (nth (nth p.fFuncs.xs i).fBlocks.xs j).fIns.xs m).fArr.toNat (memF (s1) (0, i, nth ((nth (nth (nth p.fFuncs.xs i).fBlocks.xs j).fIns.xs m).fArgs.xs) 0))) List.length_set, List.length_set] <;> rfl)))
          unfold fqI
          rw [if_neg (by omega), if_neg (by omega), if_pos ho]
          exact FW.arr hW.ok hai (by rw [hA]; rfl)
      --}
    ·
      --{
      have ho : (nth (nth (nth p.fFuncs.xs i).fBlocks.xs j).fIns.xs m).fOp = 6 := by assumption
      have hu : (nth (nth (nth p.fFuncs.xs i).fBlocks.xs j).fIns.xs m).fArgs.xs.length = 2 := hnar.2.1 (.inr ho)
      have ha2 := harr (by omega)
      have hai : (nth (nth (nth p.fFuncs.xs i).fBlocks.xs j).fIns.xs m).fArr.toNat < s1.A.length := by omega
      cases hA : nth s1.A (nth (nth (nth p.fFuncs.xs i).fBlocks.xs j).fIns.xs m).fArr.toNat with
      | true =>
        refine s_tail (F := ?F74) 23 [0, 1, 2, 3, 4, 5, 6, 7, 8, 9, 10, 11, 12, 13, 14, 15, 16, 17, 18, 19, 20, 21, 22] foI (by kernel_rfl) ?hr74 ?hn74
        case hr74 =>
          change sO _ _ _ _ _ _ (_ :: _ :: _ :: _ :: _ :: _ :: _ :: _ :: _ :: _ :: _ :: _ :: _ :: _ :: _ :: _ :: _ :: _ :: _ :: _ :: _ :: _ :: _ :: []) _ _ _
          (repeat' (first | refine s_move ?_ | refine s_nil ?_ | (refine k_load ?_; first | refine s_ldB rfl rfl ?_ | refine s_ld rfl om rfl ?_ | refine s_ldS rfl rfl om rfl ?_) | (refine k_fld ?_; refine s_fldB rfl ?_) | (refine k_idx ?_; first | refine s_idx rfl rfl om ?_ | refine s_idxI rfl rfl om om ?_ | refine s_idxS rfl rfl om ?_) | (refine k_guard ?_; first | refine s_on rfl rfl ?_ | refine s_off rfl rfl rfl rfl ?_ | (refine s_cases rfl rfl ?_ ?_ <;> intro hc)) | refine s_pick rfl ?_))
          · exact e_F
          · exact absurd (by assumption : nth s1.A (nth (nth (nth p.fFuncs.xs i).fBlocks.xs j).fIns.xs m).fArr.toNat = false) (by rw [hA]; decide)
        case hn74 =>
          change sO _ _ _ _ _ _ (_ :: []) _ _ _
          (repeat' (first | refine s_move ?_ | refine s_nil ?_ | (refine k_C ?_; refine s_region ?_) | (refine k_E ?_; first | refine e_seq ?_ | refine e_bk ?_) | (refine k_bin ?_; refine s_add1 rfl rfl om ?_) | (refine k_store ?_; refine s_st _ rfl rfl om ?_)))
          refine e_lp (m + 1, putA s1 (nth (nth (nth p.fFuncs.xs i).fBlocks.xs j).fIns.xs m).fArr.toNat true) (by repeat (first | exact trivial | refine ⟨rfl, ?_⟩)) ⟨hm1, hgo _ ?_⟩ (by show _ - _ < _ - _; omega) ((PSub.take (L' := [var 55 b32 (nth (nth p.fFuncs.xs i).fBlocks.xs j), own 4 A3 (nth p.fFuncs.xs i).fBlocks.xs.length c3 (reachB7 (nth p.fFuncs.xs i)), var 46 b28 (nth p.fFuncs.xs i), var 3 b27 (i : Int), bagG EB 3 (fun j => (k.K j).length) k.n k.mv s1.V, var 40 k.b (⟨k.xv, ⟨k.Aa, k.ca, s1.A⟩, ⟨k.Ar, k.cr, s1.Rt⟩⟩ : Palingslaw12Facts), own 29 k.xv.A k.xv.xs.length k.xv.c k.xv.xs, own 4 k.Aa s1.A.length k.ca (s1.A.set (nth (nth (nth p.fFuncs.xs i).fBlocks.xs j).fIns.xs m).fArr.toNat true), own 4 k.Ar s1.Rt.length k.cr s1.Rt, var 4 b18 true, var 87 b20 (Fv.fn 29 [.pointer (some ⟨b4, 0, none⟩)]), var 26 b4 cut, own 4 (some ⟨b9, 0, none⟩) p.fArrays.xs.length p.fArrays.xs.length S.W, var 25 b3 p, var 40 b6 (Enc.dflt : Palingslaw12Facts), var 40 b19 (⟨k.xv, ⟨k.Aa, k.ca, s1.A⟩, ⟨k.Ar, k.cr, s1.Rt⟩⟩ : Palingslaw12Facts)]) [1, 1, 1, 1, 1, 1, 1, 1, 1, 1, 1, 1, 1, 1, 1, 1] (by kernel_rfl)).trans (PSub.eq (by unfold putA; rw [fxA (b := k.b) (xs := s1.A) (ys := s1.A.set (nth (nth (nth p.fFuncs.xs i).fBlocks.xs j).fIns.xs m).fArr.toNat true) List.length_set, fxA (b := b19) (xs := s1.A) (ys := s1.A.set (nth (nth (nth p.fFuncs.xs i).fBlocks.xs j).fIns.xs m).fArr.toNat true) List.length_set, List.length_set] <;> rfl)))
          unfold fqI
          rw [if_neg (by omega), if_neg (by omega), if_neg (by omega), if_pos ho]
          exact FW.arr hW.ok hai (by rw [hA]; rfl)
      | false =>
        refine s_tail (F := ?F74b) 23 [0, 1, 2, 3, 4, 5, 6, 7, 8, 9, 10, 11, 12, 13, 14, 15, 16, 17, 18, 19, 20, 21, 22] foI (by kernel_rfl) ?hr74b ?hn74b
        case hr74b =>
          change sO _ _ _ _ _ _ (_ :: _ :: _ :: _ :: _ :: _ :: _ :: _ :: _ :: _ :: _ :: _ :: _ :: _ :: _ :: _ :: _ :: _ :: _ :: _ :: _ :: _ :: _ :: []) _ _ _
          (repeat' (first | refine s_move ?_ | refine s_nil ?_ | (refine k_load ?_; first | refine s_ldB rfl rfl ?_ | refine s_ld rfl om rfl ?_ | refine s_ldS rfl rfl om rfl ?_) | (refine k_fld ?_; refine s_fldB rfl ?_) | (refine k_idx ?_; first | refine s_idx rfl rfl om ?_ | refine s_idxI rfl rfl om om ?_ | refine s_idxS rfl rfl om ?_) | (refine k_guard ?_; first | refine s_on rfl rfl ?_ | refine s_off rfl rfl rfl rfl ?_ | (refine s_cases rfl rfl ?_ ?_ <;> intro hc)) | refine s_pick rfl ?_))
          · exact absurd (by assumption : nth s1.A (nth (nth (nth p.fFuncs.xs i).fBlocks.xs j).fIns.xs m).fArr.toNat = true) (by rw [hA]; decide)
          refine s_lookG (k := k.n) 5 rfl hik hvb rfl rfl ?_
          (repeat' (first | refine s_nil ?_ | (refine k_idx ?_; refine s_idxI rfl rfl om om ?_) | refine s_pick rfl ?_))
          exact e_F
        case hn74b =>
          change sO _ _ _ _ _ _ (_ :: []) _ _ _
          (repeat' (first | refine s_move ?_ | refine s_nil ?_ | (refine k_C ?_; refine s_region ?_) | (refine k_E ?_; first | refine e_seq ?_ | refine e_bk ?_) | (refine k_bin ?_; refine s_add1 rfl rfl om ?_) | (refine k_store ?_; refine s_st _ rfl rfl om ?_)))
          refine e_lp (m + 1, putA s1 (nth (nth (nth p.fFuncs.xs i).fBlocks.xs j).fIns.xs m).fArr.toNat (memF s1 (0, i, nth (nth (nth (nth p.fFuncs.xs i).fBlocks.xs j).fIns.xs m).fArgs.xs 1))) (by repeat (first | exact trivial | refine ⟨rfl, ?_⟩)) ⟨hm1, hgo _ ?_⟩ (by show _ - _ < _ - _; omega) ((PSub.take (L' := [var 55 b32 (nth (nth p.fFuncs.xs i).fBlocks.xs j), own 4 A3 (nth p.fFuncs.xs i).fBlocks.xs.length c3 (reachB7 (nth p.fFuncs.xs i)), var 46 b28 (nth p.fFuncs.xs i), var 3 b27 (i : Int), bagG EB 3 (fun j => (k.K j).length) k.n k.mv s1.V, var 40 k.b (⟨k.xv, ⟨k.Aa, k.ca, s1.A⟩, ⟨k.Ar, k.cr, s1.Rt⟩⟩ : Palingslaw12Facts), own 29 k.xv.A k.xv.xs.length k.xv.c k.xv.xs, own 4 k.Aa s1.A.length k.ca (s1.A.set (nth (nth (nth p.fFuncs.xs i).fBlocks.xs j).fIns.xs m).fArr.toNat (memF (s1) (0, i, nth ((nth (nth (nth p.fFuncs.xs i).fBlocks.xs j).fIns.xs m).fArgs.xs) 1))), own 4 k.Ar s1.Rt.length k.cr s1.Rt, var 4 b18 true, var 87 b20 (Fv.fn 29 [.pointer (some ⟨b4, 0, none⟩)]), var 26 b4 cut, own 4 (some ⟨b9, 0, none⟩) p.fArrays.xs.length p.fArrays.xs.length S.W, var 25 b3 p, var 40 b6 (Enc.dflt : Palingslaw12Facts), var 40 b19 (⟨k.xv, ⟨k.Aa, k.ca, s1.A⟩, ⟨k.Ar, k.cr, s1.Rt⟩⟩ : Palingslaw12Facts)]) [1, 1, 1, 1, 1, 1, 1, 1, 1, 1, 1, 1, 1, 1, 1, 1] (by kernel_rfl)).trans (PSub.eq (by unfold putA; rw [fxA (b := k.b) (xs := s1.A) (ys := s1.A.set (nth (nth (nth p.fFuncs.xs i).fBlocks.xs j).fIns.xs m).fArr.toNat (memF (s1) (0, i, nth ((nth (nth (nth p.fFuncs.xs i).fBlocks.xs j).fIns.xs m).fArgs.xs) 1))) List.length_set, fxA (b := b19) (xs := s1.A) (ys := s1.A.set (nth (nth (nth p.fFuncs.xs i).fBlocks.xs j).fIns.xs m).fArr.toNat (memF (s1) (0, i, nth ((nth (nth (nth p.fFuncs.xs i).fBlocks.xs j).fIns.xs m).fArgs.xs) 1))) List.length_set, List.length_set] <;> rfl)))
          unfold fqI
          rw [if_neg (by omega), if_neg (by omega), if_neg (by omega), if_pos ho]
          exact FW.arr hW.ok hai (by rw [hA]; rfl)
      --}
    ·
      have ho : (nth (nth (nth p.fFuncs.xs i).fBlocks.xs j).fIns.xs m).fOp = 7 := by assumption
      have hd := hdst (by omega)
      have hfa := hfn1 ho
      have hfb := hfn2 ho
      have hfl : (nth (nth (nth p.fFuncs.xs i).fBlocks.xs j).fIns.xs m).fFn.toNat < k.n := by omega
      have hvbF := hkOk.v (nth (nth (nth p.fFuncs.xs i).fBlocks.xs j).fIns.xs m).fFn.toNat hfl
      have hfl2 : (nth (nth (nth p.fFuncs.xs i).fBlocks.xs j).fIns.xs m).fArgs.xs.length = (nth (nth p.fFuncs.xs (nth (nth (nth p.fFuncs.xs i).fBlocks.xs j).fIns.xs m).fFn.toNat).fBlocks.xs 0).fParams.xs.length := (hI.fn ho).2.2.2
      have hpk : ∀ v ∈ (nth (nth p.fFuncs.xs (nth (nth (nth p.fFuncs.xs i).fBlocks.xs j).fIns.xs m).fFn.toNat).fBlocks.xs 0).fParams.xs, v ∈ k.K (nth (nth (nth p.fFuncs.xs i).fBlocks.xs j).fIns.xs m).fFn.toNat := fun v hv => by rw [hkK]; exact par_made hfb v hv
      have hpl : (nth (nth p.fFuncs.xs (nth (nth (nth p.fFuncs.xs i).fBlocks.xs j).fIns.xs m).fFn.toNat).fBlocks.xs 0).fParams.xs.length ≤ 20 := ((hp.k (nth (nth (nth p.fFuncs.xs i).fBlocks.xs j).fIns.xs m).fFn.toNat (by omega)).k 0 hfb).p
      refine s_loop (σ := Nat × FSt) (fun q => [(3, .pointer (some ⟨b3, 0, none⟩)), (4, .pointer (some ⟨b4, 0, none⟩)), (6, .pointer (some ⟨b6, 0, none⟩)), (7, .pointer (some ⟨k.b, 0, none⟩)), (8, .bool S.a), (9, .slice (some ⟨b9, 0, none⟩) p.fArrays.xs.length p.fArrays.xs.length), (18, .pointer (some ⟨b18, 0, none⟩)), (19, .pointer (some ⟨b19, 0, none⟩)), (20, .pointer (some ⟨b20, 0, none⟩)), (21, .int .i64 (P : Nat)), (26, .int .i64 (n : Nat)), (165, .slice p.fFuncs.A p.fFuncs.xs.length p.fFuncs.c), (166, .int .i64 p.fFuncs.xs.length), (167, .int .i64 (i : Nat)), (27, .pointer (some ⟨b27, 0, none⟩)), (28, .pointer (some ⟨b28, 0, none⟩)), (29, (.func (.func 30) #[] #[.pointer (some ⟨b18, 0, none⟩), .pointer (some ⟨b20, 0, none⟩), .pointer (some ⟨b27, 0, none⟩), .pointer (some ⟨k.b, 0, none⟩)])), (30, .slice A3 (nth p.fFuncs.xs i).fBlocks.xs.length c3), (176, .slice (nth p.fFuncs.xs i).fBlocks.A (nth p.fFuncs.xs i).fBlocks.xs.length (nth p.fFuncs.xs i).fBlocks.c), (177, .int .i64 (nth p.fFuncs.xs i).fBlocks.xs.length), (178, .int .i64 (j : Nat)), (31, .int .i64 (j : Nat)), (32, .pointer (some ⟨b32, 0, none⟩)), (189, .slice (nth (nth p.fFuncs.xs i).fBlocks.xs j).fIns.A (nth (nth p.fFuncs.xs i).fBlocks.xs j).fIns.xs.length (nth (nth p.fFuncs.xs i).fBlocks.xs j).fIns.c), (190, .int .i64 (nth (nth p.fFuncs.xs i).fBlocks.xs j).fIns.xs.length), (191, .int .i64 (m : Nat)), (34, .pointer (some ⟨b34, 0, none⟩)), (339, .slice (nth (nth p.fFuncs.xs (nth (nth (nth p.fFuncs.xs i).fBlocks.xs j).fIns.xs m).fFn.toNat).fBlocks.xs 0).fParams.A (nth (nth p.fFuncs.xs (nth (nth (nth p.fFuncs.xs i).fBlocks.xs j).fIns.xs m).fFn.toNat).fBlocks.xs 0).fParams.xs.length (nth (nth p.fFuncs.xs (nth (nth (nth p.fFuncs.xs i).fBlocks.xs j).fIns.xs m).fFn.toNat).fBlocks.xs 0).fParams.c), (340, .int .i64 (nth (nth p.fFuncs.xs (nth (nth (nth p.fFuncs.xs i).fBlocks.xs j).fIns.xs m).fFn.toNat).fBlocks.xs 0).fParams.xs.length), (341, .int .i64 (q.1 : Nat))]) (fun q => [var 60 b34 (nth (nth (nth p.fFuncs.xs i).fBlocks.xs j).fIns.xs m), var 55 b32 (nth (nth p.fFuncs.xs i).fBlocks.xs j), own 4 A3 (nth p.fFuncs.xs i).fBlocks.xs.length c3 (reachB7 (nth p.fFuncs.xs i)), var 46 b28 (nth p.fFuncs.xs i), var 3 b27 (i : Int), bagG EB 3 (fun j => (k.K j).length) k.n k.mv q.2.V, var 40 k.b (⟨k.xv, ⟨k.Aa, k.ca, q.2.A⟩, ⟨k.Ar, k.cr, q.2.Rt⟩⟩ : Palingslaw12Facts), own 29 k.xv.A k.xv.xs.length k.xv.c k.xv.xs, own 4 k.Aa q.2.A.length k.ca q.2.A, own 4 k.Ar q.2.Rt.length k.cr q.2.Rt, var 4 b18 true, var 87 b20 (Fv.fn 29 [.pointer (some ⟨b4, 0, none⟩)]), var 26 b4 cut, own 4 (some ⟨b9, 0, none⟩) p.fArrays.xs.length p.fArrays.xs.length S.W, var 25 b3 p, var 40 b6 (Enc.dflt : Palingslaw12Facts), var 40 b19 (⟨k.xv, ⟨k.Aa, k.ca, q.2.A⟩, ⟨k.Ar, k.cr, q.2.Rt⟩⟩ : Palingslaw12Facts)])
        (fun q => q.1 ≤ (nth (nth p.fFuncs.xs (nth (nth (nth p.fFuncs.xs i).fBlocks.xs j).fIns.xs m).fFn.toNat).fBlocks.xs 0).fParams.xs.length ∧ FW (xHi Cf) k (callF p i (nth (nth (nth p.fFuncs.xs i).fBlocks.xs j).fIns.xs m) q.1) s1 q.2) (fun q => (nth (nth p.fFuncs.xs (nth (nth (nth p.fFuncs.xs i).fBlocks.xs j).fIns.xs m).fFn.toNat).fBlocks.xs 0).fParams.xs.length - q.1) (0, s1) (by repeat (first | exact trivial | refine ⟨rfl, ?_⟩)) ⟨Nat.zero_le _, FW.nil hW.ok⟩ PSub.refl ?_
      rintro g9 ⟨a, s2⟩ ⟨ha, hWc⟩
      dsimp only at ha hWc ⊢
      have hal2 := hWc.al
      have hrl2 := hWc.rl
      (repeat' (first | refine s_nil ?_ | (refine k_C ?_; first | refine s_seq ?_ | refine s_region ?_) | (refine k_E ?_; refine e_seq ?_) | (refine k_bin ?_; refine s_lss rfl rfl ?_)))
      (first | (refine k_C ?_; (refine s_ifd rfl ?_ ?_ <;> intro hc <;> try (exfalso; omega))))
      rotate_left
      · have haE : a = (nth (nth p.fFuncs.xs (nth (nth (nth p.fFuncs.xs i).fBlocks.xs j).fIns.xs m).fFn.toNat).fBlocks.xs 0).fParams.xs.length := by omega
        subst haE
        --{
        (repeat' (first | (refine k_C ?_; refine s_exit ?_) | (refine k_E ?_; first | refine e_seq ?_ | refine e_seq_exit ?_ | refine e_bk_exit ?_ | refine e_lp_exit ?_)))
        refine s_tail (F := ?F81) 15 [0, 1, 2, 3, 4, 5, 6, 7, 8, 9, 10, 11, 12, 13, 14] foI (by kernel_rfl) ?hr81 ?hn81
        case hr81 =>
          change sO _ _ _ _ _ _ (_ :: _ :: _ :: _ :: _ :: _ :: _ :: _ :: _ :: _ :: _ :: _ :: _ :: _ :: _ :: []) _ _ _
          (repeat' (first | refine s_move ?_ | refine s_nil ?_ | (refine k_load ?_; first | refine s_ldB rfl rfl ?_ | refine s_ld rfl om rfl ?_) | (refine k_fld ?_; refine s_fldB rfl ?_) | (refine k_idx ?_; refine s_idxI rfl rfl om om ?_)))
          exact e_F
        case hn81 =>
          change sO _ _ _ _ _ _ (_ :: []) _ _ _
          refine s_callV (L2 := [var 60 b34 (nth (nth (nth p.fFuncs.xs i).fBlocks.xs j).fIns.xs m), var 55 b32 (nth (nth p.fFuncs.xs i).fBlocks.xs j), own 4 A3 (nth p.fFuncs.xs i).fBlocks.xs.length c3 (reachB7 (nth p.fFuncs.xs i)), var 46 b28 (nth p.fFuncs.xs i), own 4 k.Aa s2.A.length k.ca s2.A, own 4 k.Ar s2.Rt.length k.cr s2.Rt, own 4 (some ⟨b9, 0, none⟩) p.fArrays.xs.length p.fArrays.xs.length S.W, var 25 b3 p, var 40 b6 (Enc.dflt : Palingslaw12Facts), var 40 b19 (⟨k.xv, ⟨k.Aa, k.ca, s2.A⟩, ⟨k.Ar, k.cr, s2.Rt⟩⟩ : Palingslaw12Facts)]) [10, 10, 4, 9, 5, 5, 4] (captured := [.pointer (some ⟨b18, 0, none⟩), .pointer (some ⟨b20, 0, none⟩), .pointer (some ⟨b27, 0, none⟩), .pointer (some ⟨k.b, 0, none⟩)]) rfl (set_spec k hkOk s2 hWc.ok b4 b18 b20 b27 true cut Nc Cf hCo i hik (nth (nth (nth p.fFuncs.xs i).fBlocks.xs j).fIns.xs m).fDst hd hdw _ _) rfl rfl (fun w1 f1 C => RdCut.lasts cut Nc Cf _ _ _ _ hRC (C.st.ok C.fp)) ?_
          rintro r L' rfl
          (repeat' (first | refine s_move ?_ | refine s_nil ?_ | (refine k_C ?_; refine s_region ?_) | (refine k_E ?_; first | refine e_seq ?_ | refine e_bk ?_) | (refine k_bin ?_; refine s_add1 rfl rfl om ?_)))
          refine e_lp (m + 1, setS s2 (cutB Cf) true i (nth (nth (nth p.fFuncs.xs i).fBlocks.xs j).fIns.xs m).fDst (nth s2.Rt (nth (nth (nth p.fFuncs.xs i).fBlocks.xs j).fIns.xs m).fFn.toNat) (nth s2.Rt (nth (nth (nth p.fFuncs.xs i).fBlocks.xs j).fIns.xs m).fFn.toNat)) (by repeat (first | exact trivial | refine ⟨rfl, ?_⟩)) ⟨hm1, hgo _ ?_⟩ (by show _ - _ < _ - _; omega) (PSub.take [8, 8, 8, 2, 5, 3, 3, 4, 4, 0, 0, 0, 1, 1, 1, 1] (by kernel_rfl))
          unfold fqI
          rw [if_neg (by omega), if_neg (by omega), if_neg (by omega), if_neg (by omega), if_pos ho]
          exact hWc.trans (FW.setV (x := (xHi Cf)) hWc.ok hd rfl rfl)
        --}
      have hapl : a < (nth (nth p.fFuncs.xs (nth (nth (nth p.fFuncs.xs i).fBlocks.xs j).fIns.xs m).fFn.toNat).fBlocks.xs 0).fParams.xs.length := by omega
      have haal : a < (nth (nth (nth p.fFuncs.xs i).fBlocks.xs j).fIns.xs m).fArgs.xs.length := by omega
      have hpm := hpk _ (nth_mem hapl)
      have hpw : wfi (nth (nth (nth p.fFuncs.xs (nth (nth (nth p.fFuncs.xs i).fBlocks.xs j).fIns.xs m).fFn.toNat).fBlocks.xs 0).fParams.xs a) := RdD.int (ok := okOf w0 f0) (w := w0) (by infer_instance)
      have ha1 : a + 1 ≤ (nth (nth p.fFuncs.xs (nth (nth (nth p.fFuncs.xs i).fBlocks.xs j).fIns.xs m).fFn.toNat).fBlocks.xs 0).fParams.xs.length := by omega
      have hkl := hkOk.K (nth (nth (nth p.fFuncs.xs i).fBlocks.xs j).fIns.xs m).fFn.toNat hfl
      have hgo2 : ∀ y, y = (((s2.V (nth (nth (nth p.fFuncs.xs i).fBlocks.xs j).fIns.xs m).fFn.toNat (nth (nth (nth p.fFuncs.xs (nth (nth (nth p.fFuncs.xs i).fBlocks.xs j).fIns.xs m).fFn.toNat).fBlocks.xs 0).fParams.xs a)).getD false) || memF s2 (0, i, nth (nth (nth (nth p.fFuncs.xs i).fBlocks.xs j).fIns.xs m).fArgs.xs a)) → FW (xHi Cf) k (callF p i (nth (nth (nth p.fFuncs.xs i).fBlocks.xs j).fIns.xs m) (a + 1)) s1 (putV s2 (nth (nth (nth p.fFuncs.xs i).fBlocks.xs j).fIns.xs m).fFn.toNat (nth (nth (nth p.fFuncs.xs (nth (nth (nth p.fFuncs.xs i).fBlocks.xs j).fIns.xs m).fFn.toNat).fBlocks.xs 0).fParams.xs a) y) := fun y hy => by
        have := hWc.trans (FW.put (x := (xHi Cf)) hWc.ok (to := noF) (sure := atF (0, i, nth (nth (nth (nth p.fFuncs.xs i).fBlocks.xs j).fIns.xs m).fArgs.xs a)) hpm (y := y) (by rw [hy]; rfl))
        unfold callF at this ⊢
        rw [List.range_succ, List.map_append]
        exact this
      have hput : ∀ y u, upd (s2.V (nth (nth (nth p.fFuncs.xs i).fBlocks.xs j).fIns.xs m).fFn.toNat) (nth (nth (nth p.fFuncs.xs (nth (nth (nth p.fFuncs.xs i).fBlocks.xs j).fIns.xs m).fFn.toNat).fBlocks.xs 0).fParams.xs a) (some y) u ≠ none → u ∈ k.K (nth (nth (nth p.fFuncs.xs i).fBlocks.xs j).fIns.xs m).fFn.toNat := fun y u hu => by
        unfold upd at hu
        split at hu
        · rename_i e; rw [e]; exact hpm
        · exact hWc.ok (nth (nth (nth p.fFuncs.xs i).fBlocks.xs j).fIns.xs m).fFn.toNat hfl u hu
      (repeat' (first | refine s_move ?_ | refine s_assign ?_ | refine s_nil ?_ | (refine k_C ?_; first | refine s_seq ?_ | refine s_region ?_ | refine s_skip ?_ | refine s_block ?_) | (refine k_E ?_; refine e_seq ?_) | (refine k_load ?_; refine s_ldS rfl rfl om rfl ?_) | (refine k_idx ?_; refine s_idxS rfl rfl om ?_)))
      cases hV : (s2.V (nth (nth (nth p.fFuncs.xs i).fBlocks.xs j).fIns.xs m).fFn.toNat (nth (nth (nth p.fFuncs.xs (nth (nth (nth p.fFuncs.xs i).fBlocks.xs j).fIns.xs m).fFn.toNat).fBlocks.xs 0).fParams.xs a)).getD false with
      | true =>
        --{
        refine s_tail (F := ?F79a) 28 [0, 1, 2, 3, 4, 5, 6, 7, 8, 9, 10, 11, 12, 13, 14, 15, 16, 17, 18, 19, 20, 21, 22, 23, 24, 25, 26, 27] foI (by kernel_rfl) ?hr79a ?hn79a
        case hr79a =>
          change sO _ _ _ _ _ _ (_ :: _ :: _ :: _ :: _ :: _ :: _ :: _ :: _ :: _ :: _ :: _ :: _ :: _ :: _ :: _ :: _ :: _ :: _ :: _ :: _ :: _ :: _ :: _ :: _ :: _ :: _ :: _ :: []) _ _ _
          (repeat' (first | refine s_move ?_ | (refine k_load ?_; first | refine s_ldB rfl rfl ?_ | refine s_ld rfl om rfl ?_) | (refine k_fld ?_; refine s_fldB rfl ?_) | (refine k_idx ?_; refine s_idxI rfl rfl om om ?_)))
          refine s_lookG (k := k.n) 5 rfl hfl hvbF rfl rfl ?_
          rw [eb_z]
          (repeat' (first | refine s_move ?_ | refine s_nil ?_ | (refine k_load ?_; first | refine s_ldB rfl rfl ?_ | refine s_ld rfl om rfl ?_ | refine s_ldS rfl rfl om rfl ?_) | (refine k_fld ?_; refine s_fldB rfl ?_) | (refine k_idx ?_; first | refine s_idx rfl rfl om ?_ | refine s_idxS rfl rfl om ?_) | (refine k_guard ?_; first | refine s_on rfl rfl ?_ | refine s_off rfl rfl rfl rfl ?_ | (refine s_cases rfl rfl ?_ ?_ <;> intro hc)) | refine s_pick rfl ?_))
          · exact e_F
          · exact absurd (by assumption : (s2.V (nth (nth (nth p.fFuncs.xs i).fBlocks.xs j).fIns.xs m).fFn.toNat (nth (nth (nth p.fFuncs.xs (nth (nth (nth p.fFuncs.xs i).fBlocks.xs j).fIns.xs m).fFn.toNat).fBlocks.xs 0).fParams.xs a)).getD false = false) (by rw [hV]; decide)
        case hn79a =>
          change sO _ _ _ _ _ _ (_ :: []) _ _ _
          refine so_sub (L' := [mp EB 3 (k.mv (nth (nth (nth p.fFuncs.xs i).fBlocks.xs j).fIns.xs m).fFn.toNat) (k.K (nth (nth (nth p.fFuncs.xs i).fBlocks.xs j).fIns.xs m).fFn.toNat).length (s2.V (nth (nth (nth p.fFuncs.xs i).fBlocks.xs j).fIns.xs m).fFn.toNat), bagGX EB 3 (fun j => (k.K j).length) k.n k.mv s2.V (nth (nth (nth p.fFuncs.xs i).fBlocks.xs j).fIns.xs m).fFn.toNat, var 60 b34 (nth (nth (nth p.fFuncs.xs i).fBlocks.xs j).fIns.xs m), var 55 b32 (nth (nth p.fFuncs.xs i).fBlocks.xs j), own 4 A3 (nth p.fFuncs.xs i).fBlocks.xs.length c3 (reachB7 (nth p.fFuncs.xs i)), var 46 b28 (nth p.fFuncs.xs i), var 3 b27 (i : Int), var 40 k.b (⟨k.xv, ⟨k.Aa, k.ca, s2.A⟩, ⟨k.Ar, k.cr, s2.Rt⟩⟩ : Palingslaw12Facts), own 29 k.xv.A k.xv.xs.length k.xv.c k.xv.xs, own 4 k.Aa s2.A.length k.ca s2.A, own 4 k.Ar s2.Rt.length k.cr s2.Rt, var 4 b18 true, var 87 b20 (Fv.fn 29 [.pointer (some ⟨b4, 0, none⟩)]), var 26 b4 cut, own 4 (some ⟨b9, 0, none⟩) p.fArrays.xs.length p.fArrays.xs.length S.W, var 25 b3 p, var 40 b6 (Enc.dflt : Palingslaw12Facts), var 40 b19 (⟨k.xv, ⟨k.Aa, k.ca, s2.A⟩, ⟨k.Ar, k.cr, s2.Rt⟩⟩ : Palingslaw12Facts)]) ((PSub.take (L' := [bagG EB 3 (fun j => (k.K j).length) k.n k.mv s2.V, var 60 b34 (nth (nth (nth p.fFuncs.xs i).fBlocks.xs j).fIns.xs m), var 55 b32 (nth (nth p.fFuncs.xs i).fBlocks.xs j), own 4 A3 (nth p.fFuncs.xs i).fBlocks.xs.length c3 (reachB7 (nth p.fFuncs.xs i)), var 46 b28 (nth p.fFuncs.xs i), var 3 b27 (i : Int), var 40 k.b (⟨k.xv, ⟨k.Aa, k.ca, s2.A⟩, ⟨k.Ar, k.cr, s2.Rt⟩⟩ : Palingslaw12Facts), own 29 k.xv.A k.xv.xs.length k.xv.c k.xv.xs, own 4 k.Aa s2.A.length k.ca s2.A, own 4 k.Ar s2.Rt.length k.cr s2.Rt, var 4 b18 true, var 87 b20 (Fv.fn 29 [.pointer (some ⟨b4, 0, none⟩)]), var 26 b4 cut, own 4 (some ⟨b9, 0, none⟩) p.fArrays.xs.length p.fArrays.xs.length S.W, var 25 b3 p, var 40 b6 (Enc.dflt : Palingslaw12Facts), var 40 b19 (⟨k.xv, ⟨k.Aa, k.ca, s2.A⟩, ⟨k.Ar, k.cr, s2.Rt⟩⟩ : Palingslaw12Facts)]) [5, 0, 0, 0, 0, 0, 0, 0, 0, 0, 0, 0, 0, 0, 0, 0, 0] (by kernel_rfl)).trans (PSub.bagGout hfl)) ?_
          refine s_put (yv := true) (congrArg Value.map hvbF) rfl rfl hpw trivial (by omega) ?_
          (repeat' (first | refine s_move ?_ | refine s_nil ?_ | (refine k_C ?_; refine s_region ?_) | (refine k_E ?_; first | refine e_seq ?_ | refine e_bk ?_) | (refine k_bin ?_; refine s_add1 rfl rfl om ?_)))
          refine e_lp (a + 1, putV s2 (nth (nth (nth p.fFuncs.xs i).fBlocks.xs j).fIns.xs m).fFn.toNat (nth (nth (nth p.fFuncs.xs (nth (nth (nth p.fFuncs.xs i).fBlocks.xs j).fIns.xs m).fFn.toNat).fBlocks.xs 0).fParams.xs a) true) (by repeat (first | exact trivial | refine ⟨rfl, ?_⟩)) ⟨ha1, hgo2 _ (by rw [hV]; rfl)⟩ (by show _ - _ < _ - _; omega) ((PSub.mpCut (k.K (nth (nth (nth p.fFuncs.xs i).fBlocks.xs j).fIns.xs m).fFn.toNat) U_3 (hput _)).trans ((PSub.bagGin (E := EB) (kt := 3) (U := fun j => (k.K j).length) (mi := k.mv) (F := s2.V) hfl).trans (PSub.take [1, 1, 1, 1, 1, 0, 0, 0, 0, 0, 0, 0, 0, 0, 0, 0, 0] (by kernel_rfl))))
        --}
      | false =>
        --{
        refine s_tail (F := ?F79b) 28 [0, 1, 2, 3, 4, 5, 6, 7, 8, 9, 10, 11, 12, 13, 14, 15, 16, 17, 18, 19, 20, 21, 22, 23, 24, 25, 26, 27] foI (by kernel_rfl) ?hr79b ?hn79b
        case hr79b =>
          change sO _ _ _ _ _ _ (_ :: _ :: _ :: _ :: _ :: _ :: _ :: _ :: _ :: _ :: _ :: _ :: _ :: _ :: _ :: _ :: _ :: _ :: _ :: _ :: _ :: _ :: _ :: _ :: _ :: _ :: _ :: _ :: []) _ _ _
          (repeat' (first | refine s_move ?_ | (refine k_load ?_; first | refine s_ldB rfl rfl ?_ | refine s_ld rfl om rfl ?_) | (refine k_fld ?_; refine s_fldB rfl ?_) | (refine k_idx ?_; refine s_idxI rfl rfl om om ?_)))
          refine s_lookG (k := k.n) 5 rfl hfl hvbF rfl rfl ?_
          rw [eb_z]
          (repeat' (first | refine s_move ?_ | refine s_nil ?_ | (refine k_load ?_; first | refine s_ldB rfl rfl ?_ | refine s_ld rfl om rfl ?_ | refine s_ldS rfl rfl om rfl ?_) | (refine k_fld ?_; refine s_fldB rfl ?_) | (refine k_idx ?_; first | refine s_idx rfl rfl om ?_ | refine s_idxS rfl rfl om ?_) | (refine k_guard ?_; first | refine s_on rfl rfl ?_ | refine s_off rfl rfl rfl rfl ?_ | (refine s_cases rfl rfl ?_ ?_ <;> intro hc)) | refine s_pick rfl ?_))
          · exact absurd (by assumption : (s2.V (nth (nth (nth p.fFuncs.xs i).fBlocks.xs j).fIns.xs m).fFn.toNat (nth (nth (nth p.fFuncs.xs (nth (nth (nth p.fFuncs.xs i).fBlocks.xs j).fIns.xs m).fFn.toNat).fBlocks.xs 0).fParams.xs a)).getD false = true) (by rw [hV]; decide)
          · (refine s_lookG (k := k.n) 5 rfl hik hvb rfl rfl ?_; (repeat' (first | refine s_nil ?_ | refine s_pick rfl ?_)); exact e_F)
        case hn79b =>
          change sO _ _ _ _ _ _ (_ :: []) _ _ _
          refine so_sub (L' := [mp EB 3 (k.mv (nth (nth (nth p.fFuncs.xs i).fBlocks.xs j).fIns.xs m).fFn.toNat) (k.K (nth (nth (nth p.fFuncs.xs i).fBlocks.xs j).fIns.xs m).fFn.toNat).length (s2.V (nth (nth (nth p.fFuncs.xs i).fBlocks.xs j).fIns.xs m).fFn.toNat), bagGX EB 3 (fun j => (k.K j).length) k.n k.mv s2.V (nth (nth (nth p.fFuncs.xs i).fBlocks.xs j).fIns.xs m).fFn.toNat, var 60 b34 (nth (nth (nth p.fFuncs.xs i).fBlocks.xs j).fIns.xs m), var 55 b32 (nth (nth p.fFuncs.xs i).fBlocks.xs j), own 4 A3 (nth p.fFuncs.xs i).fBlocks.xs.length c3 (reachB7 (nth p.fFuncs.xs i)), var 46 b28 (nth p.fFuncs.xs i), var 3 b27 (i : Int), var 40 k.b (⟨k.xv, ⟨k.Aa, k.ca, s2.A⟩, ⟨k.Ar, k.cr, s2.Rt⟩⟩ : Palingslaw12Facts), own 29 k.xv.A k.xv.xs.length k.xv.c k.xv.xs, own 4 k.Aa s2.A.length k.ca s2.A, own 4 k.Ar s2.Rt.length k.cr s2.Rt, var 4 b18 true, var 87 b20 (Fv.fn 29 [.pointer (some ⟨b4, 0, none⟩)]), var 26 b4 cut, own 4 (some ⟨b9, 0, none⟩) p.fArrays.xs.length p.fArrays.xs.length S.W, var 25 b3 p, var 40 b6 (Enc.dflt : Palingslaw12Facts), var 40 b19 (⟨k.xv, ⟨k.Aa, k.ca, s2.A⟩, ⟨k.Ar, k.cr, s2.Rt⟩⟩ : Palingslaw12Facts)]) ((PSub.take (L' := [bagG EB 3 (fun j => (k.K j).length) k.n k.mv s2.V, var 60 b34 (nth (nth (nth p.fFuncs.xs i).fBlocks.xs j).fIns.xs m), var 55 b32 (nth (nth p.fFuncs.xs i).fBlocks.xs j), own 4 A3 (nth p.fFuncs.xs i).fBlocks.xs.length c3 (reachB7 (nth p.fFuncs.xs i)), var 46 b28 (nth p.fFuncs.xs i), var 3 b27 (i : Int), var 40 k.b (⟨k.xv, ⟨k.Aa, k.ca, s2.A⟩, ⟨k.Ar, k.cr, s2.Rt⟩⟩ : Palingslaw12Facts), own 29 k.xv.A k.xv.xs.length k.xv.c k.xv.xs, own 4 k.Aa s2.A.length k.ca s2.A, own 4 k.Ar s2.Rt.length k.cr s2.Rt, var 4 b18 true, var 87 b20 (Fv.fn 29 [.pointer (some ⟨b4, 0, none⟩)]), var 26 b4 cut, own 4 (some ⟨b9, 0, none⟩) p.fArrays.xs.length p.fArrays.xs.length S.W, var 25 b3 p, var 40 b6 (Enc.dflt : Palingslaw12Facts), var 40 b19 (⟨k.xv, ⟨k.Aa, k.ca, s2.A⟩, ⟨k.Ar, k.cr, s2.Rt⟩⟩ : Palingslaw12Facts)]) [5, 0, 0, 0, 0, 0, 0, 0, 0, 0, 0, 0, 0, 0, 0, 0, 0] (by kernel_rfl)).trans (PSub.bagGout hfl)) ?_
          refine s_put (yv := (memF s2 (0, i, nth (nth (nth (nth p.fFuncs.xs i).fBlocks.xs j).fIns.xs m).fArgs.xs a))) (congrArg Value.map hvbF) rfl rfl hpw trivial (by omega) ?_
          (repeat' (first | refine s_move ?_ | refine s_nil ?_ | (refine k_C ?_; refine s_region ?_) | (refine k_E ?_; first | refine e_seq ?_ | refine e_bk ?_) | (refine k_bin ?_; refine s_add1 rfl rfl om ?_)))
          refine e_lp (a + 1, putV s2 (nth (nth (nth p.fFuncs.xs i).fBlocks.xs j).fIns.xs m).fFn.toNat (nth (nth (nth p.fFuncs.xs (nth (nth (nth p.fFuncs.xs i).fBlocks.xs j).fIns.xs m).fFn.toNat).fBlocks.xs 0).fParams.xs a) (memF s2 (0, i, nth (nth (nth (nth p.fFuncs.xs i).fBlocks.xs j).fIns.xs m).fArgs.xs a))) (by repeat (first | exact trivial | refine ⟨rfl, ?_⟩)) ⟨ha1, hgo2 _ (by rw [hV]; rfl)⟩ (by show _ - _ < _ - _; omega) ((PSub.mpCut (k.K (nth (nth (nth p.fFuncs.xs i).fBlocks.xs j).fIns.xs m).fFn.toNat) U_3 (hput _)).trans ((PSub.bagGin (E := EB) (kt := 3) (U := fun j => (k.K j).length) (mi := k.mv) (F := s2.V) hfl).trans (PSub.take [1, 1, 1, 1, 1, 0, 0, 0, 0, 0, 0, 0, 0, 0, 0, 0, 0] (by kernel_rfl))))
        --}
    ·
      --{
      refine e_lp (m + 1, s1) (by repeat (first | exact trivial | refine ⟨rfl, ?_⟩)) ⟨hm1, hgo _ ?_⟩ (by show _ - _ < _ - _; omega) PSub.tl
      unfold fqI
      rw [if_neg (by omega), if_neg (by omega), if_neg (by omega), if_neg (by omega), if_neg (by omega)]
      exact FW.nil hW.ok
      --}
  have hmE : m = (nth (nth p.fFuncs.xs i).fBlocks.xs j).fIns.xs.length := by omega
  subst hmE
  rw [List.take_length] at hW
  (repeat' (first | refine s_move ?_ | refine s_nil ?_ | (refine k_C ?_; first | refine s_seq ?_ | refine s_region ?_ | refine s_block ?_ | refine s_exit ?_) | (refine k_E ?_; first | refine e_seq ?_ | refine e_seq_exit ?_ | refine e_bk_exit ?_ | refine e_lp_exit ?_) | (refine k_load ?_; refine s_ldB rfl rfl ?_) | (refine k_fld ?_; refine s_fldB rfl ?_) | (refine k_call ?_; refine s_len rfl ?_)))
  refine s_loop (σ := Nat × FSt) (fun q => [(3, .pointer (some ⟨b3, 0, none⟩)), (4, .pointer (some ⟨b4, 0, none⟩)), (6, .pointer (some ⟨b6, 0, none⟩)), (7, .pointer (some ⟨k.b, 0, none⟩)), (8, .bool S.a), (9, .slice (some ⟨b9, 0, none⟩) p.fArrays.xs.length p.fArrays.xs.length), (18, .pointer (some ⟨b18, 0, none⟩)), (19, .pointer (some ⟨b19, 0, none⟩)), (20, .pointer (some ⟨b20, 0, none⟩)), (21, .int .i64 (P : Nat)), (26, .int .i64 (n : Nat)), (165, .slice p.fFuncs.A p.fFuncs.xs.length p.fFuncs.c), (166, .int .i64 p.fFuncs.xs.length), (167, .int .i64 (i : Nat)), (27, .pointer (some ⟨b27, 0, none⟩)), (28, .pointer (some ⟨b28, 0, none⟩)), (29, (.func (.func 30) #[] #[.pointer (some ⟨b18, 0, none⟩), .pointer (some ⟨b20, 0, none⟩), .pointer (some ⟨b27, 0, none⟩), .pointer (some ⟨k.b, 0, none⟩)])), (30, .slice A3 (nth p.fFuncs.xs i).fBlocks.xs.length c3), (176, .slice (nth p.fFuncs.xs i).fBlocks.A (nth p.fFuncs.xs i).fBlocks.xs.length (nth p.fFuncs.xs i).fBlocks.c), (177, .int .i64 (nth p.fFuncs.xs i).fBlocks.xs.length), (178, .int .i64 (j : Nat)), (31, .int .i64 (j : Nat)), (32, .pointer (some ⟨b32, 0, none⟩)), (394, .slice (nth (nth p.fFuncs.xs i).fBlocks.xs j).fEnd.fWays.A (nth (nth p.fFuncs.xs i).fBlocks.xs j).fEnd.fWays.xs.length (nth (nth p.fFuncs.xs i).fBlocks.xs j).fEnd.fWays.c), (395, .int .i64 (nth (nth p.fFuncs.xs i).fBlocks.xs j).fEnd.fWays.xs.length), (396, .int .i64 (q.1 : Nat))]) (fun q => [var 55 b32 (nth (nth p.fFuncs.xs i).fBlocks.xs j), own 4 A3 (nth p.fFuncs.xs i).fBlocks.xs.length c3 (reachB7 (nth p.fFuncs.xs i)), var 46 b28 (nth p.fFuncs.xs i), var 3 b27 (i : Int), bagG EB 3 (fun j => (k.K j).length) k.n k.mv q.2.V, var 40 k.b (⟨k.xv, ⟨k.Aa, k.ca, q.2.A⟩, ⟨k.Ar, k.cr, q.2.Rt⟩⟩ : Palingslaw12Facts), own 29 k.xv.A k.xv.xs.length k.xv.c k.xv.xs, own 4 k.Aa q.2.A.length k.ca q.2.A, own 4 k.Ar q.2.Rt.length k.cr q.2.Rt, var 4 b18 true, var 87 b20 (Fv.fn 29 [.pointer (some ⟨b4, 0, none⟩)]), var 26 b4 cut, own 4 (some ⟨b9, 0, none⟩) p.fArrays.xs.length p.fArrays.xs.length S.W, var 25 b3 p, var 40 b6 (Enc.dflt : Palingslaw12Facts), var 40 b19 (⟨k.xv, ⟨k.Aa, k.ca, q.2.A⟩, ⟨k.Ar, k.cr, q.2.Rt⟩⟩ : Palingslaw12Facts)])
    (fun q => q.1 ≤ (nth (nth p.fFuncs.xs i).fBlocks.xs j).fEnd.fWays.xs.length ∧ FW (xHi Cf) k (fqP p (xHi Cf) i ++ fqF p (xHi Cf) i j ++ (nth (nth p.fFuncs.xs i).fBlocks.xs j).fIns.xs.flatMap (fqI p (xHi Cf) i) ++ ((nth (nth p.fFuncs.xs i).fBlocks.xs j).fEnd.fWays.xs.take q.1).flatMap (fqW p i)) s q.2) (fun q => (nth (nth p.fFuncs.xs i).fBlocks.xs j).fEnd.fWays.xs.length - q.1) (0, s1) (by repeat (first | exact trivial | refine ⟨rfl, ?_⟩)) ⟨Nat.zero_le _, by simpa using hW⟩ PSub.refl ?_
  clear hW
  rintro g8 ⟨w, s1⟩ ⟨hw, hW⟩
  dsimp only at hw hW ⊢
  (repeat' (first | refine s_nil ?_ | (refine k_C ?_; first | refine s_seq ?_ | refine s_region ?_) | (refine k_E ?_; refine e_seq ?_) | (refine k_bin ?_; refine s_lss rfl rfl ?_)))
  (first | (refine k_C ?_; (refine s_ifd rfl ?_ ?_ <;> intro hc <;> try (exfalso; omega))))
  · have hwl : w < (nth (nth p.fFuncs.xs i).fBlocks.xs j).fEnd.fWays.xs.length := by omega
    obtain ⟨hw0, hw1, hw2⟩ := way_facts (hG.ends i hil j hjl) (nth_mem hwl)
    have hwt : (nth (nth (nth p.fFuncs.xs i).fBlocks.xs j).fEnd.fWays.xs w).fTo.toNat < (nth p.fFuncs.xs i).fBlocks.xs.length := by omega
    have hpl : (nth (nth p.fFuncs.xs i).fBlocks.xs (nth (nth (nth p.fFuncs.xs i).fBlocks.xs j).fEnd.fWays.xs w).fTo.toNat).fParams.xs.length ≤ 20 := ((hp.k i hil).k _ hwt).p
    (repeat' (first | refine s_move ?_ | refine s_nil ?_ | (refine k_C ?_; first | refine s_seq ?_ | refine s_region ?_ | refine s_skip ?_ | refine s_block ?_) | (refine k_E ?_; refine e_seq ?_) | (refine k_load ?_; first | refine s_ldB rfl rfl ?_ | refine s_ldS rfl rfl om rfl ?_ | refine s_ldSA rfl rfl om rfl ?_) | (refine k_fld ?_; first | refine s_fld rfl ?_ | refine s_fldB rfl ?_) | (refine k_idx ?_; first | refine s_idxS rfl rfl om ?_ | refine s_idxSI rfl rfl om om ?_) | (refine k_store ?_; refine s_stW _ rfl rfl ?_) | (refine k_call ?_; refine s_len rfl ?_) | (refine s_alloc ?_; intro b)))
    obtain ⟨b43, rfl⟩ : ∃ q, q = b := ⟨_, rfl⟩
    refine s_loop (σ := Nat × FSt) (fun q => [(3, .pointer (some ⟨b3, 0, none⟩)), (4, .pointer (some ⟨b4, 0, none⟩)), (6, .pointer (some ⟨b6, 0, none⟩)), (7, .pointer (some ⟨k.b, 0, none⟩)), (8, .bool S.a), (9, .slice (some ⟨b9, 0, none⟩) p.fArrays.xs.length p.fArrays.xs.length), (18, .pointer (some ⟨b18, 0, none⟩)), (19, .pointer (some ⟨b19, 0, none⟩)), (20, .pointer (some ⟨b20, 0, none⟩)), (21, .int .i64 (P : Nat)), (26, .int .i64 (n : Nat)), (165, .slice p.fFuncs.A p.fFuncs.xs.length p.fFuncs.c), (166, .int .i64 p.fFuncs.xs.length), (167, .int .i64 (i : Nat)), (27, .pointer (some ⟨b27, 0, none⟩)), (28, .pointer (some ⟨b28, 0, none⟩)), (29, (.func (.func 30) #[] #[.pointer (some ⟨b18, 0, none⟩), .pointer (some ⟨b20, 0, none⟩), .pointer (some ⟨b27, 0, none⟩), .pointer (some ⟨k.b, 0, none⟩)])), (30, .slice A3 (nth p.fFuncs.xs i).fBlocks.xs.length c3), (176, .slice (nth p.fFuncs.xs i).fBlocks.A (nth p.fFuncs.xs i).fBlocks.xs.length (nth p.fFuncs.xs i).fBlocks.c), (177, .int .i64 (nth p.fFuncs.xs i).fBlocks.xs.length), (178, .int .i64 (j : Nat)), (31, .int .i64 (j : Nat)), (32, .pointer (some ⟨b32, 0, none⟩)), (394, .slice (nth (nth p.fFuncs.xs i).fBlocks.xs j).fEnd.fWays.A (nth (nth p.fFuncs.xs i).fBlocks.xs j).fEnd.fWays.xs.length (nth (nth p.fFuncs.xs i).fBlocks.xs j).fEnd.fWays.c), (395, .int .i64 (nth (nth p.fFuncs.xs i).fBlocks.xs j).fEnd.fWays.xs.length), (396, .int .i64 (w : Nat)), (43, .pointer (some ⟨b43, 0, none⟩)), (406, .slice (nth (nth p.fFuncs.xs i).fBlocks.xs (nth (nth (nth p.fFuncs.xs i).fBlocks.xs j).fEnd.fWays.xs w).fTo.toNat).fParams.A (nth (nth p.fFuncs.xs i).fBlocks.xs (nth (nth (nth p.fFuncs.xs i).fBlocks.xs j).fEnd.fWays.xs w).fTo.toNat).fParams.xs.length (nth (nth p.fFuncs.xs i).fBlocks.xs (nth (nth (nth p.fFuncs.xs i).fBlocks.xs j).fEnd.fWays.xs w).fTo.toNat).fParams.c), (407, .int .i64 (nth (nth p.fFuncs.xs i).fBlocks.xs (nth (nth (nth p.fFuncs.xs i).fBlocks.xs j).fEnd.fWays.xs w).fTo.toNat).fParams.xs.length), (408, .int .i64 (q.1 : Nat))]) (fun q => [var 74 b43 (nth (nth (nth p.fFuncs.xs i).fBlocks.xs j).fEnd.fWays.xs w), var 55 b32 (nth (nth p.fFuncs.xs i).fBlocks.xs j), own 4 A3 (nth p.fFuncs.xs i).fBlocks.xs.length c3 (reachB7 (nth p.fFuncs.xs i)), var 46 b28 (nth p.fFuncs.xs i), var 3 b27 (i : Int), bagG EB 3 (fun j => (k.K j).length) k.n k.mv q.2.V, var 40 k.b (⟨k.xv, ⟨k.Aa, k.ca, q.2.A⟩, ⟨k.Ar, k.cr, q.2.Rt⟩⟩ : Palingslaw12Facts), own 29 k.xv.A k.xv.xs.length k.xv.c k.xv.xs, own 4 k.Aa q.2.A.length k.ca q.2.A, own 4 k.Ar q.2.Rt.length k.cr q.2.Rt, var 4 b18 true, var 87 b20 (Fv.fn 29 [.pointer (some ⟨b4, 0, none⟩)]), var 26 b4 cut, own 4 (some ⟨b9, 0, none⟩) p.fArrays.xs.length p.fArrays.xs.length S.W, var 25 b3 p, var 40 b6 (Enc.dflt : Palingslaw12Facts), var 40 b19 (⟨k.xv, ⟨k.Aa, k.ca, q.2.A⟩, ⟨k.Ar, k.cr, q.2.Rt⟩⟩ : Palingslaw12Facts)])
      (fun q => q.1 ≤ (nth (nth p.fFuncs.xs i).fBlocks.xs (nth (nth (nth p.fFuncs.xs i).fBlocks.xs j).fEnd.fWays.xs w).fTo.toNat).fParams.xs.length ∧ FW (xHi Cf) k ((fqP p (xHi Cf) i ++ fqF p (xHi Cf) i j ++ (nth (nth p.fFuncs.xs i).fBlocks.xs j).fIns.xs.flatMap (fqI p (xHi Cf) i) ++ ((nth (nth p.fFuncs.xs i).fBlocks.xs j).fEnd.fWays.xs.take w).flatMap (fqW p i)) ++ fwayR p i (nth (nth (nth p.fFuncs.xs i).fBlocks.xs j).fEnd.fWays.xs w) q.1) s q.2) (fun q => (nth (nth p.fFuncs.xs i).fBlocks.xs (nth (nth (nth p.fFuncs.xs i).fBlocks.xs j).fEnd.fWays.xs w).fTo.toNat).fParams.xs.length - q.1) (0, s1) (by repeat (first | exact trivial | refine ⟨rfl, ?_⟩)) ⟨Nat.zero_le _, by show FW _ k (_ ++ []) s s1; rw [List.append_nil]; exact hW⟩ PSub.refl ?_
    clear hW
    rintro g9 ⟨a, s1⟩ ⟨ha, hW⟩
    dsimp only at ha hW ⊢
    have hal1 := hW.al
    have hrl1 := hW.rl
    (repeat' (first | refine s_nil ?_ | (refine k_C ?_; first | refine s_seq ?_ | refine s_region ?_) | (refine k_E ?_; refine e_seq ?_) | (refine k_bin ?_; refine s_lss rfl rfl ?_)))
    (first | (refine k_C ?_; (refine s_ifd rfl ?_ ?_ <;> intro hc <;> try (exfalso; omega))))
    rotate_left
    · have haE : a = (nth (nth p.fFuncs.xs i).fBlocks.xs (nth (nth (nth p.fFuncs.xs i).fBlocks.xs j).fEnd.fWays.xs w).fTo.toNat).fParams.xs.length := by omega
      subst haE
      (repeat' (first | refine s_move ?_ | refine s_nil ?_ | (refine k_C ?_; first | refine s_region ?_ | refine s_exit ?_) | (refine k_E ?_; first | refine e_seq ?_ | refine e_seq_exit ?_ | refine e_bk_exit ?_ | refine e_bk ?_ | refine e_lp_exit ?_) | (refine k_bin ?_; refine s_add1 rfl rfl om ?_)))
      exact e_lp (w + 1, s1) (by repeat (first | exact trivial | refine ⟨rfl, ?_⟩)) ⟨by show w + 1 ≤ _; omega, by show FW _ k (_ ++ ((nth (nth p.fFuncs.xs i).fBlocks.xs j).fEnd.fWays.xs.take (w + 1)).flatMap _) s s1; rw [flat_takeN hwl, ← List.append_assoc]; exact hW⟩ (by show _ - _ < _ - _; omega) PSub.tl
    have hapl : a < (nth (nth p.fFuncs.xs i).fBlocks.xs (nth (nth (nth p.fFuncs.xs i).fBlocks.xs j).fEnd.fWays.xs w).fTo.toNat).fParams.xs.length := by omega
    have haal : a < (nth (nth (nth p.fFuncs.xs i).fBlocks.xs j).fEnd.fWays.xs w).fArgs.xs.length := by rw [hw2]; exact hapl
    have hd : nth (nth (nth p.fFuncs.xs i).fBlocks.xs (nth (nth (nth p.fFuncs.xs i).fBlocks.xs j).fEnd.fWays.xs w).fTo.toNat).fParams.xs a ∈ k.K i := by rw [hkK]; exact par_made hwt _ (nth_mem hapl)
    have hdw : wfi (nth (nth (nth p.fFuncs.xs i).fBlocks.xs (nth (nth (nth p.fFuncs.xs i).fBlocks.xs j).fEnd.fWays.xs w).fTo.toNat).fParams.xs a) := RdD.int (ok := okOf w0 f0) (w := w0) (by infer_instance)
    have ha1 : a + 1 ≤ (nth (nth p.fFuncs.xs i).fBlocks.xs (nth (nth (nth p.fFuncs.xs i).fBlocks.xs j).fEnd.fWays.xs w).fTo.toNat).fParams.xs.length := by omega
    (repeat' (first | refine s_move ?_ | refine s_assign ?_ | refine s_nil ?_ | (refine k_C ?_; first | refine s_seq ?_ | refine s_region ?_ | refine s_skip ?_ | refine s_block ?_) | (refine k_E ?_; refine e_seq ?_) | (refine k_load ?_; refine s_ldS rfl rfl om rfl ?_) | (refine k_idx ?_; refine s_idxS rfl rfl om ?_)))
    --{
    refine s_tail (F := ?F89) 24 [0, 1, 2, 3, 4, 5, 6, 7, 8, 9, 10, 11, 12, 13, 14, 15, 16, 17, 18, 19, 20, 21, 22, 23] foI (by kernel_rfl) ?hr89 ?hn89
    case hr89 =>
      change sO _ _ _ _ _ _ (_ :: _ :: _ :: _ :: _ :: _ :: _ :: _ :: _ :: _ :: _ :: _ :: _ :: _ :: _ :: _ :: _ :: _ :: _ :: _ :: _ :: _ :: _ :: _ :: []) _ _ _
      (repeat' (first | refine s_move ?_ | (refine k_load ?_; first | refine s_ldB rfl rfl ?_ | refine s_ld rfl om rfl ?_ | refine s_ldS rfl rfl om rfl ?_) | (refine k_fld ?_; refine s_fldB rfl ?_) | (refine k_idx ?_; first | refine s_idx rfl rfl om ?_ | refine s_idxS rfl rfl om ?_)))
      refine s_lookG (k := k.n) 5 rfl hik hvb rfl rfl ?_
      rw [eb_z]
      (repeat' (first | refine s_move ?_ | (refine k_load ?_; first | refine s_ldB rfl rfl ?_ | refine s_ld rfl om rfl ?_ | refine s_ldS rfl rfl om rfl ?_) | (refine k_fld ?_; refine s_fldB rfl ?_) | (refine k_idx ?_; first | refine s_idx rfl rfl om ?_ | refine s_idxS rfl rfl om ?_)))
      refine s_lookG (k := k.n) 5 rfl hik hvb rfl rfl ?_
      rw [eb_z]
      (repeat' (first | refine s_nil ?_))
      exact e_F
    case hn89 =>
      change sO _ _ _ _ _ _ (_ :: []) _ _ _
      refine s_callV (L2 := [var 74 b43 (nth (nth (nth p.fFuncs.xs i).fBlocks.xs j).fEnd.fWays.xs w), var 55 b32 (nth (nth p.fFuncs.xs i).fBlocks.xs j), own 4 A3 (nth p.fFuncs.xs i).fBlocks.xs.length c3 (reachB7 (nth p.fFuncs.xs i)), var 46 b28 (nth p.fFuncs.xs i), own 4 k.Aa s1.A.length k.ca s1.A, own 4 k.Ar s1.Rt.length k.cr s1.Rt, own 4 (some ⟨b9, 0, none⟩) p.fArrays.xs.length p.fArrays.xs.length S.W, var 25 b3 p, var 40 b6 (Enc.dflt : Palingslaw12Facts), var 40 b19 (⟨k.xv, ⟨k.Aa, k.ca, s1.A⟩, ⟨k.Ar, k.cr, s1.Rt⟩⟩ : Palingslaw12Facts)]) [10, 10, 4, 9, 5, 5, 4] (captured := [.pointer (some ⟨b18, 0, none⟩), .pointer (some ⟨b20, 0, none⟩), .pointer (some ⟨b27, 0, none⟩), .pointer (some ⟨k.b, 0, none⟩)]) rfl (set_spec k hkOk s1 hW.ok b4 b18 b20 b27 true cut Nc Cf hCo i hik _ hd hdw _ _) rfl rfl (fun w1 f1 C => RdCut.lasts cut Nc Cf _ _ _ _ hRC (C.st.ok C.fp)) ?_
      rintro r L' rfl
      (repeat' (first | refine s_move ?_ | refine s_nil ?_ | (refine k_C ?_; refine s_region ?_) | (refine k_E ?_; first | refine e_seq ?_ | refine e_bk ?_) | (refine k_bin ?_; refine s_add1 rfl rfl om ?_)))
      refine e_lp (a + 1, setS s1 (cutB Cf) true i (nth (nth (nth p.fFuncs.xs i).fBlocks.xs (nth (nth (nth p.fFuncs.xs i).fBlocks.xs j).fEnd.fWays.xs w).fTo.toNat).fParams.xs a) (memF s1 (0, i, nth (nth (nth (nth p.fFuncs.xs i).fBlocks.xs j).fEnd.fWays.xs w).fArgs.xs a)) (memF s1 (0, i, nth (nth (nth (nth p.fFuncs.xs i).fBlocks.xs j).fEnd.fWays.xs w).fArgs.xs a))) (by repeat (first | exact trivial | refine ⟨rfl, ?_⟩)) ⟨ha1, ?_⟩ (by show _ - _ < _ - _; omega) (PSub.take [7, 7, 7, 7, 2, 5, 3, 3, 3, 3, 0, 0, 0, 0, 0, 0, 0] (by kernel_rfl))
      have := hW.trans (FW.setV (x := (xHi Cf)) hW.ok hd (to := atF (0, i, nth (nth (nth (nth p.fFuncs.xs i).fBlocks.xs j).fEnd.fWays.xs w).fArgs.xs a)) (sure := atF (0, i, nth (nth (nth (nth p.fFuncs.xs i).fBlocks.xs j).fEnd.fWays.xs w).fArgs.xs a)) rfl rfl)
      unfold fwayR at this ⊢
      rw [List.range_succ, List.map_append, ← List.append_assoc]
      exact this
    --}
  have hwE : w = (nth (nth p.fFuncs.xs i).fBlocks.xs j).fEnd.fWays.xs.length := by omega
  subst hwE
  rw [List.take_length] at hW
  have hal1 := hW.al
  have hrl1 := hW.rl
  have hgoB : ∀ s2, FW (xHi Cf) k (fqE i (nth (nth p.fFuncs.xs i).fBlocks.xs j).fEnd) s1 s2 → FW (xHi Cf) k (fqP p (xHi Cf) i ++ fqF p (xHi Cf) i (j + 1)) s s2 := fun s2 h => by
    rw [fqF_succ, if_pos hrn]
    have := hW.trans h
    unfold fqB
    simpa only [List.append_assoc] using this
  have hj1 : j + 1 ≤ (nth p.fFuncs.xs i).fBlocks.xs.length := by omega
  have hri : i < s1.Rt.length := by omega
  (repeat' (first | refine s_move ?_ | refine s_nil ?_ | (refine k_C ?_; first | refine s_seq ?_ | refine s_region ?_ | refine s_skip ?_ | refine s_exit ?_ | (refine s_ifd rfl ?_ ?_ <;> intro hc <;> try (exfalso; omega))) | (refine k_E ?_; first | refine e_seq ?_ | refine e_seq_exit ?_ | refine e_bk_exit ?_ | refine e_bk ?_ | refine e_lp_exit ?_) | (refine k_load ?_; refine s_ldB rfl rfl ?_) | (refine k_bin ?_; first | refine s_add1 rfl rfl om ?_ | refine s_eql rfl rfl ?_) | (refine k_fld ?_; refine s_fldB rfl ?_)))
  · have h3 : (nth (nth p.fFuncs.xs i).fBlocks.xs j).fEnd.fKind = 3 := by assumption
    cases hA : nth s1.Rt i with
    | true =>
      --{
      refine s_tail (F := ?F93a) 20 [0, 1, 2, 3, 4, 5, 6, 7, 8, 9, 10, 11, 12, 13, 14, 15, 16, 17, 18, 19] foI (by kernel_rfl) ?hr93a ?hn93a
      case hr93a =>
        change sO _ _ _ _ _ _ (_ :: _ :: _ :: _ :: _ :: _ :: _ :: _ :: _ :: _ :: _ :: _ :: _ :: _ :: _ :: _ :: _ :: _ :: _ :: _ :: []) _ _ _
        (repeat' (first | refine s_move ?_ | refine s_nil ?_ | (refine k_load ?_; first | refine s_ldB rfl rfl ?_ | refine s_ld rfl om rfl ?_) | (refine k_fld ?_; refine s_fldB rfl ?_) | (refine k_idx ?_; refine s_idx rfl rfl om ?_) | (refine k_guard ?_; first | refine s_on rfl rfl ?_ | refine s_off rfl rfl rfl rfl ?_ | (refine s_cases rfl rfl ?_ ?_ <;> intro hc)) | refine s_pick rfl ?_))
        · exact e_F
        · exact absurd (by assumption : nth s1.Rt i = false) (by rw [hA]; decide)
      case hn93a =>
        change sO _ _ _ _ _ _ (_ :: []) _ _ _
        (repeat' (first | refine s_move ?_ | refine s_nil ?_ | (refine k_C ?_; refine s_region ?_) | (refine k_E ?_; first | refine e_seq ?_ | refine e_bk ?_) | (refine k_bin ?_; refine s_add1 rfl rfl om ?_) | (refine k_store ?_; refine s_st _ rfl rfl om ?_)))
        refine e_lp (j + 1, putR s1 i true) (by repeat (first | exact trivial | refine ⟨rfl, ?_⟩)) ⟨hj1, hgoB _ ?_⟩ (by show _ - _ < _ - _; omega) ((PSub.take (L' := [own 4 A3 (nth p.fFuncs.xs i).fBlocks.xs.length c3 (reachB7 (nth p.fFuncs.xs i)), var 46 b28 (nth p.fFuncs.xs i), var 3 b27 (i : Int), bagG EB 3 (fun j => (k.K j).length) k.n k.mv s1.V, var 40 k.b (⟨k.xv, ⟨k.Aa, k.ca, s1.A⟩, ⟨k.Ar, k.cr, s1.Rt⟩⟩ : Palingslaw12Facts), own 29 k.xv.A k.xv.xs.length k.xv.c k.xv.xs, own 4 k.Aa s1.A.length k.ca s1.A, own 4 k.Ar s1.Rt.length k.cr (s1.Rt.set i true), var 4 b18 true, var 87 b20 (Fv.fn 29 [.pointer (some ⟨b4, 0, none⟩)]), var 26 b4 cut, own 4 (some ⟨b9, 0, none⟩) p.fArrays.xs.length p.fArrays.xs.length S.W, var 25 b3 p, var 40 b6 (Enc.dflt : Palingslaw12Facts), var 40 b19 (⟨k.xv, ⟨k.Aa, k.ca, s1.A⟩, ⟨k.Ar, k.cr, s1.Rt⟩⟩ : Palingslaw12Facts)]) [1, 1, 1, 1, 1, 1, 1, 1, 1, 1, 1, 1, 1, 1, 1] (by kernel_rfl)).trans (PSub.eq (by unfold putR; rw [fxR (b := k.b) (xs := s1.Rt) (ys := s1.Rt.set i true) List.length_set, fxR (b := b19) (xs := s1.Rt) (ys := s1.Rt.set i true) List.length_set, List.length_set] <;> rfl)))
        unfold fqE
        rw [if_pos h3]
        exact FW.ret hW.ok hri (by rw [hA]; rfl)
      --}
    | false =>
      --{
      refine s_tail (F := ?F93b) 20 [0, 1, 2, 3, 4, 5, 6, 7, 8, 9, 10, 11, 12, 13, 14, 15, 16, 17, 18, 19] foI (by kernel_rfl) ?hr93b ?hn93b
      case hr93b =>
        change sO _ _ _ _ _ _ (_ :: _ :: _ :: _ :: _ :: _ :: _ :: _ :: _ :: _ :: _ :: _ :: _ :: _ :: _ :: _ :: _ :: _ :: _ :: _ :: []) _ _ _
        (repeat' (first | refine s_move ?_ | refine s_nil ?_ | (refine k_load ?_; first | refine s_ldB rfl rfl ?_ | refine s_ld rfl om rfl ?_) | (refine k_fld ?_; refine s_fldB rfl ?_) | (refine k_idx ?_; refine s_idx rfl rfl om ?_) | (refine k_guard ?_; first | refine s_on rfl rfl ?_ | refine s_off rfl rfl rfl rfl ?_ | (refine s_cases rfl rfl ?_ ?_ <;> intro hc)) | refine s_pick rfl ?_))
        · exact absurd (by assumption : nth s1.Rt i = true) (by rw [hA]; decide)
        refine s_lookG (k := k.n) 4 rfl hik hvb rfl rfl ?_
        rw [eb_z]
        (repeat' (first | refine s_nil ?_ | (refine k_idx ?_; refine s_idx rfl rfl om ?_) | refine s_pick rfl ?_))
        exact e_F
      case hn93b =>
        change sO _ _ _ _ _ _ (_ :: []) _ _ _
        (repeat' (first | refine s_move ?_ | refine s_nil ?_ | (refine k_C ?_; refine s_region ?_) | (refine k_E ?_; first | refine e_seq ?_ | refine e_bk ?_) | (refine k_bin ?_; refine s_add1 rfl rfl om ?_) | (refine k_store ?_; refine s_st _ rfl rfl om ?_)))
        refine e_lp (j + 1, putR s1 i (memF s1 (0, i, (nth (nth p.fFuncs.xs i).fBlocks.xs j).fEnd.fVal))) (by repeat (first | exact trivial | refine ⟨rfl, ?_⟩)) ⟨hj1, hgoB _ ?_⟩ (by show _ - _ < _ - _; omega) ((PSub.take (L' := [own 4 A3 (nth p.fFuncs.xs i).fBlocks.xs.length c3 (reachB7 (nth p.fFuncs.xs i)), var 46 b28 (nth p.fFuncs.xs i), var 3 b27 (i : Int), bagG EB 3 (fun j => (k.K j).length) k.n k.mv s1.V, var 40 k.b (⟨k.xv, ⟨k.Aa, k.ca, s1.A⟩, ⟨k.Ar, k.cr, s1.Rt⟩⟩ : Palingslaw12Facts), own 29 k.xv.A k.xv.xs.length k.xv.c k.xv.xs, own 4 k.Aa s1.A.length k.ca s1.A, own 4 k.Ar s1.Rt.length k.cr (s1.Rt.set i (memF (s1) (0, i, (nth (nth p.fFuncs.xs i).fBlocks.xs j).fEnd.fVal))), var 4 b18 true, var 87 b20 (Fv.fn 29 [.pointer (some ⟨b4, 0, none⟩)]), var 26 b4 cut, own 4 (some ⟨b9, 0, none⟩) p.fArrays.xs.length p.fArrays.xs.length S.W, var 25 b3 p, var 40 b6 (Enc.dflt : Palingslaw12Facts), var 40 b19 (⟨k.xv, ⟨k.Aa, k.ca, s1.A⟩, ⟨k.Ar, k.cr, s1.Rt⟩⟩ : Palingslaw12Facts)]) [1, 1, 1, 1, 1, 1, 1, 1, 1, 1, 1, 1, 1, 1, 1] (by kernel_rfl)).trans (PSub.eq (by unfold putR; rw [fxR (b := k.b) (xs := s1.Rt) (ys := s1.Rt.set i (memF (s1) (0, i, (nth (nth p.fFuncs.xs i).fBlocks.xs j).fEnd.fVal))) List.length_set, fxR (b := b19) (xs := s1.Rt) (ys := s1.Rt.set i (memF (s1) (0, i, (nth (nth p.fFuncs.xs i).fBlocks.xs j).fEnd.fVal))) List.length_set, List.length_set] <;> rfl)))
        unfold fqE
        rw [if_pos h3]
        exact FW.ret hW.ok hri (by rw [hA]; rfl)
      --}
  · have h3 : ¬ (nth (nth p.fFuncs.xs i).fBlocks.xs j).fEnd.fKind = 3 := by assumption
    refine e_lp (j + 1, s1) (by repeat (first | exact trivial | refine ⟨rfl, ?_⟩)) ⟨hj1, hgoB _ ?_⟩ (by show _ - _ < _ - _; omega) PSub.tl
    unfold fqE
    rw [if_neg h3]
    exact FW.nil hW.ok
end Go.Proofs.Ytomhieglgfjloaa
