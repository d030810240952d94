/- Layer 15: Of, walked. -/
import Derived.Test.YtfplmdjlgjgbgaaV1
import Derived.Test.YtfplmdjlgjgbgaaA10
namespace Go.Proofs.Ytfplmdjlgjgbgaa
set_option linter.unusedVariables false
set_option linter.unusedSimpArgs false
open Go Go.RowKit

structure OkF (f : SsaFunc) : Prop where
  b : f.fBlocks.xs.length ≤ 1000
  k : ∀ i, i < f.fBlocks.xs.length → OkB (nth f.fBlocks.xs i)
  u : (usU f).length ≤ 90000000
/-- Many sets, as maps: the first k. -/
noncomputable def bagM (U k : Nat) (mi : Nat → Nat) (I : Nat → Int → Bool) : HP := star ((List.range k).map fun j => mp EB 3 (mi j) U (setP (I j)))
section
variable {w0 : World} {f0 : FP} {L : List HP} {U k : Nat} {mi : Nat → Nat} {I : Nat → Int → Bool}
theorem PSub.bagM0 : PSub w0 f0 L (bagM U 0 mi I :: L) := PSub.starNil
theorem PSub.bagMnew {b : Nat} {p : Int → Bool} : PSub w0 f0 (mp EB 3 b U (setP p) :: bagM U k mi I :: L) (bagM U (k + 1) (updB mi k b) (updB I k p) :: L) := by
  have h := PSub.starNew (w0 := w0) (f0 := f0) (L := L) (ps := (List.range k).map fun j => mp EB 3 (mi j) U (setP (I j))) (R := mp EB 3 b U (setP p))
  have e : bagM U (k + 1) (updB mi k b) (updB I k p) = star (((List.range k).map fun j => mp EB 3 (mi j) U (setP (I j))) ++ [mp EB 3 b U (setP p)]) := by
    unfold bagM
    rw [List.range_succ, List.map_append, List.map_singleton, updB_same, updB_same]
    congr 2
    refine List.map_congr_left fun j hj => ?_
    have := List.mem_range.1 hj
    rw [updB_ne (by omega), updB_ne (by omega)]
  rw [e]; exact h
/-- A bag one set of which is taken out. -/
noncomputable def bagX (U k : Nat) (mi : Nat → Nat) (I : Nat → Int → Bool) (b : Nat) : HP := star (((List.range k).map fun j => mp EB 3 (mi j) U (setP (I j))).eraseIdx b)
theorem PSub.bagMout {b : Nat} (hb : b < k) : PSub w0 f0 (bagM U k mi I :: L) (mp EB 3 (mi b) U (setP (I b)) :: bagX U k mi I b :: L) := PSub.starOut (by rw [List.getElem?_map, List.getElem?_range hb]; rfl)
theorem PSub.bagMin {b x : Nat} {p : Int → Bool} (hb : b < k) : PSub w0 f0 (mp EB 3 x U (setP p) :: bagX U k mi I b :: L) (bagM U k (updB mi b x) (updB I b p) :: L) := by
  have h := PSub.starIn (w0 := w0) (f0 := f0) (L := L) (ps := (List.range k).map fun j => mp EB 3 (mi j) U (setP (I j))) (R := mp EB 3 x U (setP p)) (j := b) (by simpa using hb)
  have e : bagM U k (updB mi b x) (updB I b p) = star (((List.range k).map fun j => mp EB 3 (mi j) U (setP (I j))).set b (mp EB 3 x U (setP p))) := by
    unfold bagM
    congr 1
    apply List.ext_getElem?
    intro j
    rw [List.getElem?_map]
    by_cases e : j = b
    · subst e
      rw [List.getElem?_set_self (by simpa using hb), List.getElem?_range hb]
      simp only [Option.map_some, updB_same]
    · rw [List.getElem?_set_ne (Ne.symm e), List.getElem?_map]
      rcases Nat.lt_or_ge j k with h | h
      · rw [List.getElem?_range h]; simp only [Option.map_some, updB_ne e]
      · rw [List.getElem?_eq_none (by simpa using h)]; rfl
  rw [e]; exact h
end
def rowOk (k n : Nat) (xs : List Mr) (mi : Nat → Nat) : Prop := xs.length = n ∧ ∀ j, j < k → nth xs j = ⟨some (mi j)⟩
theorem rowOk.new {k n : Nat} {xs : List Mr} {mi : Nat → Nat} (h : rowOk k n xs mi) (hk : k < n) (x : Nat) : rowOk (k + 1) n (xs.set k ⟨some x⟩) (updB mi k x) := by
  refine ⟨by rw [List.length_set]; exact h.1, fun j hj => ?_⟩
  rw [nth_set (by rw [h.1]; exact hk)]
  by_cases e : j = k
  · subst e; rw [if_pos rfl, updB_same]
  · rw [if_neg e, updB_ne e]; exact h.2 j (by omega)
theorem rowOk.set {n b : Nat} {xs : List Mr} {mi : Nat → Nat} (h : rowOk n n xs mi) (hb : b < n) (x : Nat) : rowOk n n (xs.set b ⟨some x⟩) (updB mi b x) := by
  refine ⟨by rw [List.length_set]; exact h.1, fun j hj => ?_⟩
  rw [nth_set (by rw [h.1]; exact hb)]
  by_cases e : j = b
  · subst e; rw [if_pos rfl, updB_same]
  · rw [if_neg e, updB_ne e]; exact h.2 j hj
theorem sum_upd (g : Nat → Nat) (b x : Nat) : ∀ n, b < n → ((List.range n).map (updB g b x)).sum + g b = ((List.range n).map g).sum + x
  | n + 1, hb => by
    rw [List.range_succ, List.map_append, List.map_append, List.sum_append, List.sum_append, List.map_singleton, List.map_singleton, List.sum_singleton, List.sum_singleton]
    rcases Nat.lt_or_ge b n with h | h
    · have := sum_upd g b x n h
      rw [updB_ne (by omega)]; omega
    · obtain rfl : b = n := by omega
      rw [updB_same]
      have : (List.range b).map (updB g b x) = (List.range b).map g := List.map_congr_left fun j hj => updB_ne (by have := List.mem_range.1 hj; omega)
      rw [this]; omega
/-- How much may still come. -/
def potQ (f : SsaFunc) (I : Nat → Int → Bool) : Nat := ((List.range f.fBlocks.xs.length).map fun b => (dd (usU f)).length - cardU (usU f) (I b)).sum
theorem potQ_upd {f : SsaFunc} {I : Nat → Int → Bool} {b : Nat} {p : Int → Bool} (hb : b < f.fBlocks.xs.length) : potQ f (updB I b p) + ((dd (usU f)).length - cardU (usU f) (I b)) = potQ f I + ((dd (usU f)).length - cardU (usU f) p) := by
  have h := sum_upd (fun b => (dd (usU f)).length - cardU (usU f) (I b)) b ((dd (usU f)).length - cardU (usU f) p) _ hb
  have e : (updB (fun b => (dd (usU f)).length - cardU (usU f) (I b)) b ((dd (usU f)).length - cardU (usU f) p)) = fun c => (dd (usU f)).length - cardU (usU f) (updB I b p c) := by
    funext c
    unfold updB
    split <;> rfl
  rw [e] at h
  exact h
/-- What has come to rest. -/
structure FixQ (f : SsaFunc) (I O : Nat → Int → Bool) : Prop where
  inv : InvQ f I O
  at_ : ∀ b, b < f.fBlocks.xs.length → I b = backP (nth f.fBlocks.xs b) (O b) ∧ ∀ k, Ctr f I b k → O b k = true
theorem St.bagRd {w0 w : World} {f0 : FP} {L : List HP} {U k b : Nat} {mi : Nat → Nat} {I : Nat → Int → Bool} (H : St w0 f0 L w) (i : Nat) (hi : L[i]? = some (bagM U k mi I)) (hb : b < k) : RdPs (some (mi b)) U (I b) (okOf w fun _ => False) w := by
  obtain ⟨g, hA, _⟩ := H.focus i hi
  obtain ⟨g1, h1, h2⟩ := star_at hA (i := b) (X := mp EB 3 (mi b) U (setP (I b))) (by rw [List.getElem?_map, List.getElem?_range hb]; rfl)
  exact .inr ⟨mi b, rfl, ⟨(bagM U k mi I).dom hA _ (h2 _ ((h1.1 _).2 rfl)), id⟩, h1.2⟩
theorem index15_spec (s : Sl Int) (v : Int) (hl : s.xs.length ≤ 1000000) : Spec Try.prog 38 [.slice s.A s.xs.length s.c, .int .i64 v] [] (fun ok w => RdD ok w s) fun r L' => ∃ i : Int, r = .int .i64 i ∧ (0 ≤ i ↔ v ∈ s.xs) ∧ L' = [] := by
  refine spec_of Try.func38 rfl rfl fun w0 f0 hR => ?_
  (repeat' (first | refine s_move ?_ | refine s_assign ?_ | refine s_nil ?_ | (refine k_C ?_; first | refine s_seq ?_ | refine s_region ?_ | refine s_block ?_) | (refine k_E ?_; refine e_seq ?_) | (refine k_call ?_; refine s_len rfl ?_)))
  refine s_loop (σ := Nat) (fun i => [(0, .slice s.A s.xs.length s.c), (1, .int .i64 v), (7, .int .i64 s.xs.length), (8, .int .i64 (i : Nat))])
    (fun _ => []) (fun i => i ≤ s.xs.length ∧ v ∉ s.xs.take i) (fun i => s.xs.length - i) 0 (by repeat (first | exact trivial | refine ⟨rfl, ?_⟩)) ⟨Nat.zero_le _, by simp⟩ (PSub.take [] rfl) ?_
  rintro g i ⟨hi, hni⟩
  (repeat' (first | refine s_nil ?_ | (refine k_C ?_; first | refine s_seq ?_ | refine s_region ?_) | (refine k_E ?_; refine e_seq ?_) | (refine k_bin ?_; refine s_lss rfl rfl ?_)))
  (first | (refine k_C ?_; (refine s_ifd rfl ?_ ?_ <;> intro hc <;> try (exfalso; omega))))
  rotate_left
  · (repeat' (first | refine s_assign ?_ | refine s_nil ?_ | (refine k_C ?_; first | refine s_seq ?_ | refine s_region ?_ | refine s_exit ?_ | refine s_ret ?_) | (refine k_E ?_; first | refine e_seq ?_ | refine e_seq_exit ?_ | refine e_bk_exit ?_ | refine e_lp_exit ?_)))
    refine e_done rfl rfl [] (PSub.take [] rfl) ⟨-1, rfl, ?_, rfl⟩
    rw [List.take_of_length_le (by omega)] at hni
    exact ⟨fun h => absurd h (by decide), fun h => absurd h hni⟩
  have hin : i < s.xs.length := by omega
  (repeat' (first | refine s_move ?_ | refine s_assign ?_ | refine s_nil ?_ | (refine k_C ?_; first | refine s_seq ?_ | refine s_region ?_ | refine s_skip ?_ | refine s_block ?_ | refine s_ret ?_ | (refine s_ifd rfl ?_ ?_ <;> intro hc <;> try (exfalso; omega))) | (refine k_E ?_; first | refine e_seq ?_ | refine e_seq_ret ?_ | refine e_bk_ret ?_ | refine e_bk ?_ | refine e_lp_ret ?_) | (refine k_load ?_; refine s_ldS rfl rfl om rfl ?_) | (refine k_bin ?_; first | refine s_add1 rfl rfl om ?_ | refine s_eql rfl rfl ?_) | (refine k_idx ?_; refine s_idxS rfl rfl om ?_)))
  · refine e_done rfl rfl [] (PSub.take [] rfl) ⟨(i : Int), rfl, ?_, rfl⟩
    exact ⟨fun _ => by rw [hc]; exact nth_mem hin, fun _ => Int.natCast_nonneg i⟩
  refine e_lp (i + 1) (by repeat (first | exact trivial | refine ⟨rfl, ?_⟩)) ⟨by omega, fun h => ?_⟩ (by show _ - _ < _ - _; omega) (PSub.take [] rfl)
  rw [← takeN hin, List.mem_append, List.mem_singleton] at h
  exact h.elim hni hc
theorem contains15_spec (s : Sl Int) (v : Int) (hl : s.xs.length ≤ 1000000) : Spec Try.prog 24 [.slice s.A s.xs.length s.c, .int .i64 v] [] (fun ok w => RdD ok w s) fun r L' => r = .bool (decide (v ∈ s.xs)) ∧ L' = [] := by
  refine spec_of Try.func24 rfl rfl fun w0 f0 hR => ?_
  (repeat' (first | refine s_move ?_ | refine s_assign ?_ | refine s_nil ?_ | (refine k_C ?_; first | refine s_seq ?_ | refine s_region ?_) | (refine k_E ?_; refine e_seq ?_)))
  refine s_call0 (index15_spec s v hl) rfl (fun w1 H => H.rdD (by infer_instance)) ?_
  rintro r L' ⟨i, rfl, hi, rfl⟩
  (repeat' (first | refine s_assign ?_ | refine s_nil ?_ | (refine k_C ?_; refine s_ret ?_) | (refine k_E ?_; refine e_seq ?_) | (refine k_bin ?_; refine s_geq rfl rfl ?_)))
  refine e_done rfl rfl [] (PSub.take [] rfl) ⟨?_, rfl⟩
  exact congrArg Value.bool (decide_eq_decide.2 hi)
structure SQ where
  t : Bool
  mi : Nat → Nat
  mo : Nat → Nat
  I : Nat → Int → Bool
  O : Nat → Int → Bool
  xi : List Mr
  xo : List Mr
set_option maxHeartbeats 8000000 in
theorem of15_spec (f : SsaFunc) (hf : OkF f) : Spec Try.prog 12 [.agg (Enc.enc f).toArray] [] (fun ok w => RdD ok w f) fun r L' => ∃ (Si So : Sl Mr) (mi mo : Nat → Nat) (I O : Nat → Int → Bool), r = .agg (Enc.enc (⟨Si, So⟩ : LiveSets)).toArray ∧ FixQ f I O ∧ rowOk f.fBlocks.xs.length f.fBlocks.xs.length Si.xs mi ∧ rowOk f.fBlocks.xs.length f.fBlocks.xs.length So.xs mo ∧ L' = [own 58 Si.A Si.xs.length Si.c Si.xs, own 58 So.A So.xs.length So.c So.xs, bagM (usU f).length f.fBlocks.xs.length mi I, bagM (usU f).length f.fBlocks.xs.length mo O] := by
  refine spec_of Try.func12 rfl rfl fun w0 f0 hR => ?_
  have hn := hf.b
  (repeat' (first | refine s_assign ?_ | refine s_nil ?_ | (refine k_C ?_; first | refine s_seq ?_ | refine s_region ?_) | (refine k_E ?_; refine e_seq ?_) | (refine k_load ?_; refine s_ldB rfl rfl ?_) | (refine k_fld ?_; refine s_fldB rfl ?_) | (refine k_call ?_; refine s_len rfl ?_) | (refine s_alloc ?_; intro b) | (refine s_box _ rfl ?_; intro b)))
  rename Nat => b2
  obtain ⟨b1, rfl⟩ : ∃ q, q = b := ⟨_, rfl⟩
  refine s_cutI (σ := Nat × Nat × Nat) (fun q => [(1, .pointer (some ⟨b1, 0, none⟩)), (2, .pointer (some ⟨b2, 0, none⟩)), (3, .int .i64 f.fBlocks.xs.length), (4, .pointer (some ⟨q.2.2, 0, none⟩))])
    (fun q => [own 58 (some ⟨q.1, 0, none⟩) f.fBlocks.xs.length f.fBlocks.xs.length (List.replicate f.fBlocks.xs.length (Enc.dflt : Mr)), own 58 (some ⟨q.2.1, 0, none⟩) f.fBlocks.xs.length f.fBlocks.xs.length (List.replicate f.fBlocks.xs.length (Enc.dflt : Mr)), var 52 q.2.2 (⟨⟨some ⟨q.1, 0, none⟩, f.fBlocks.xs.length, List.replicate f.fBlocks.xs.length (Enc.dflt : Mr)⟩, ⟨some ⟨q.2.1, 0, none⟩, f.fBlocks.xs.length, List.replicate f.fBlocks.xs.length (Enc.dflt : Mr)⟩⟩ : LiveSets), var 52 b2 (Enc.dflt : LiveSets), var 38 b1 f]) (fun _ => True) ?_ ?_
  · refine s_draw [] 6 foI (by kernel_rfl) (PSub.take [] rfl) fun hD => ?_
    refine d_rd (fuel := 5) #[true, false, true, false, false, false, false] [0, 2] ?F2_1 hD (by kernel_rfl) ?hr2_1 ?hn2_1
    case hr2_1 =>
      change sO _ _ _ _ _ _ (_ :: _ :: []) _ _ _
      (repeat' (first | refine s_move ?_ | refine s_nil ?_))
      exact e_F
    refine d_all (fuel := 4) [1, 3, 5] (by kernel_rfl) ⟨?_, ?_, ?_, trivial⟩
    · change sO _ _ _ _ _ _ (_ :: []) _ _ _
      (repeat' (first | refine s_nil ?_ | (refine s_make rfl rfl om ?_; intro b)))
      rename Nat => p1
      refine e_sd (PSub.take [] rfl) ?_
      refine d_all (fuel := 3) [3, 5] (by kernel_rfl) ⟨?_, ?_, trivial⟩
      · change sO _ _ _ _ _ _ (_ :: []) _ _ _
        (repeat' (first | refine s_nil ?_ | (refine s_make rfl rfl om ?_; intro b)))
        rename Nat => p3
        refine e_sd (PSub.take [] rfl) ?_
        refine d_rd (fuel := 2) #[true, true, true, true, true, false, false] [4] ?F2_2 hD (by kernel_rfl) ?hr2_2 ?hn2_2
        case hr2_2 =>
          change sO _ _ _ _ _ _ (_ :: []) _ _ _
          skip
          refine s_bld (⟨⟨some ⟨p1, 0, none⟩, f.fBlocks.xs.length, List.replicate f.fBlocks.xs.length (Enc.dflt : Mr)⟩, ⟨some ⟨p3, 0, none⟩, f.fBlocks.xs.length, List.replicate f.fBlocks.xs.length (Enc.dflt : Mr)⟩⟩ : LiveSets) (by show _ = some [Value.slice _ (List.replicate _ _).length _, Value.slice _ (List.replicate _ _).length _].toArray; rw [List.length_replicate]; kernel_rfl) ?_
          (repeat' (first | refine s_nil ?_))
          exact e_F
        refine d_all (fuel := 1) [5] (by kernel_rfl) ⟨?_, trivial⟩
        change sO _ _ _ _ _ _ (_ :: []) _ _ _
        (repeat' (first | refine s_nil ?_ | (refine s_alloc ?_; intro b)))
        rename Nat => p5
        refine e_sd (PSub.take [] rfl) ?_
        refine d_end hD (by kernel_rfl) rfl ?_
        change sO _ _ _ _ _ _ (_ :: []) _ _ _
        (repeat' (first | refine s_nil ?_ | (refine k_store ?_; refine s_stW _ rfl rfl ?_)))
        exact e_ct (p1, p3, p5) (by repeat (first | exact trivial | refine ⟨rfl, ?_⟩)) trivial (PSub.take [2, 1, 0, 0, 0] rfl)
      · change sO _ _ _ _ _ _ (_ :: []) _ _ _
        (repeat' (first | refine s_nil ?_ | (refine s_alloc ?_; intro b)))
        rename Nat => p5
        refine e_sd (PSub.take [] rfl) ?_
        refine d_all (fuel := 2) [3] (by kernel_rfl) ⟨?_, trivial⟩
        change sO _ _ _ _ _ _ (_ :: []) _ _ _
        (repeat' (first | refine s_nil ?_ | (refine s_make rfl rfl om ?_; intro b)))
        rename Nat => p3
        refine e_sd (PSub.take [] rfl) ?_
        refine d_rd (fuel := 1) #[true, true, true, true, true, true, false] [4] ?F2_3 hD (by kernel_rfl) ?hr2_3 ?hn2_3
        case hr2_3 =>
          change sO _ _ _ _ _ _ (_ :: []) _ _ _
          skip
          refine s_bld (⟨⟨some ⟨p1, 0, none⟩, f.fBlocks.xs.length, List.replicate f.fBlocks.xs.length (Enc.dflt : Mr)⟩, ⟨some ⟨p3, 0, none⟩, f.fBlocks.xs.length, List.replicate f.fBlocks.xs.length (Enc.dflt : Mr)⟩⟩ : LiveSets) (by show _ = some [Value.slice _ (List.replicate _ _).length _, Value.slice _ (List.replicate _ _).length _].toArray; rw [List.length_replicate]; kernel_rfl) ?_
          (repeat' (first | refine s_nil ?_))
          exact e_F
        refine d_end hD (by kernel_rfl) rfl ?_
        change sO _ _ _ _ _ _ (_ :: []) _ _ _
        (repeat' (first | refine s_nil ?_ | (refine k_store ?_; refine s_stW _ rfl rfl ?_)))
        exact e_ct (p1, p3, p5) (by repeat (first | exact trivial | refine ⟨rfl, ?_⟩)) trivial (PSub.take [2, 0, 0, 0, 0] rfl)
    · change sO _ _ _ _ _ _ (_ :: []) _ _ _
      (repeat' (first | refine s_nil ?_ | (refine s_make rfl rfl om ?_; intro b)))
      rename Nat => p3
      refine e_sd (PSub.take [] rfl) ?_
      refine d_all (fuel := 3) [1, 5] (by kernel_rfl) ⟨?_, ?_, trivial⟩
      · change sO _ _ _ _ _ _ (_ :: []) _ _ _
        (repeat' (first | refine s_nil ?_ | (refine s_make rfl rfl om ?_; intro b)))
        rename Nat => p1
        refine e_sd (PSub.take [] rfl) ?_
        refine d_rd (fuel := 2) #[true, true, true, true, true, false, false] [4] ?F2_4 hD (by kernel_rfl) ?hr2_4 ?hn2_4
        case hr2_4 =>
          change sO _ _ _ _ _ _ (_ :: []) _ _ _
          skip
          refine s_bld (⟨⟨some ⟨p1, 0, none⟩, f.fBlocks.xs.length, List.replicate f.fBlocks.xs.length (Enc.dflt : Mr)⟩, ⟨some ⟨p3, 0, none⟩, f.fBlocks.xs.length, List.replicate f.fBlocks.xs.length (Enc.dflt : Mr)⟩⟩ : LiveSets) (by show _ = some [Value.slice _ (List.replicate _ _).length _, Value.slice _ (List.replicate _ _).length _].toArray; rw [List.length_replicate]; kernel_rfl) ?_
          (repeat' (first | refine s_nil ?_))
          exact e_F
        refine d_all (fuel := 1) [5] (by kernel_rfl) ⟨?_, trivial⟩
        change sO _ _ _ _ _ _ (_ :: []) _ _ _
        (repeat' (first | refine s_nil ?_ | (refine s_alloc ?_; intro b)))
        rename Nat => p5
        refine e_sd (PSub.take [] rfl) ?_
        refine d_end hD (by kernel_rfl) rfl ?_
        change sO _ _ _ _ _ _ (_ :: []) _ _ _
        (repeat' (first | refine s_nil ?_ | (refine k_store ?_; refine s_stW _ rfl rfl ?_)))
        exact e_ct (p1, p3, p5) (by repeat (first | exact trivial | refine ⟨rfl, ?_⟩)) trivial (PSub.take [1, 1, 0, 0, 0] rfl)
      · change sO _ _ _ _ _ _ (_ :: []) _ _ _
        (repeat' (first | refine s_nil ?_ | (refine s_alloc ?_; intro b)))
        rename Nat => p5
        refine e_sd (PSub.take [] rfl) ?_
        refine d_all (fuel := 2) [1] (by kernel_rfl) ⟨?_, trivial⟩
        change sO _ _ _ _ _ _ (_ :: []) _ _ _
        (repeat' (first | refine s_nil ?_ | (refine s_make rfl rfl om ?_; intro b)))
        rename Nat => p1
        refine e_sd (PSub.take [] rfl) ?_
        refine d_rd (fuel := 1) #[true, true, true, true, true, true, false] [4] ?F2_5 hD (by kernel_rfl) ?hr2_5 ?hn2_5
        case hr2_5 =>
          change sO _ _ _ _ _ _ (_ :: []) _ _ _
          skip
          refine s_bld (⟨⟨some ⟨p1, 0, none⟩, f.fBlocks.xs.length, List.replicate f.fBlocks.xs.length (Enc.dflt : Mr)⟩, ⟨some ⟨p3, 0, none⟩, f.fBlocks.xs.length, List.replicate f.fBlocks.xs.length (Enc.dflt : Mr)⟩⟩ : LiveSets) (by show _ = some [Value.slice _ (List.replicate _ _).length _, Value.slice _ (List.replicate _ _).length _].toArray; rw [List.length_replicate]; kernel_rfl) ?_
          (repeat' (first | refine s_nil ?_))
          exact e_F
        refine d_end hD (by kernel_rfl) rfl ?_
        change sO _ _ _ _ _ _ (_ :: []) _ _ _
        (repeat' (first | refine s_nil ?_ | (refine k_store ?_; refine s_stW _ rfl rfl ?_)))
        exact e_ct (p1, p3, p5) (by repeat (first | exact trivial | refine ⟨rfl, ?_⟩)) trivial (PSub.take [0, 1, 0, 0, 0] rfl)
    · change sO _ _ _ _ _ _ (_ :: []) _ _ _
      (repeat' (first | refine s_nil ?_ | (refine s_alloc ?_; intro b)))
      rename Nat => p5
      refine e_sd (PSub.take [] rfl) ?_
      refine d_all (fuel := 3) [1, 3] (by kernel_rfl) ⟨?_, ?_, trivial⟩
      · change sO _ _ _ _ _ _ (_ :: []) _ _ _
        (repeat' (first | refine s_nil ?_ | (refine s_make rfl rfl om ?_; intro b)))
        rename Nat => p1
        refine e_sd (PSub.take [] rfl) ?_
        refine d_all (fuel := 2) [3] (by kernel_rfl) ⟨?_, trivial⟩
        change sO _ _ _ _ _ _ (_ :: []) _ _ _
        (repeat' (first | refine s_nil ?_ | (refine s_make rfl rfl om ?_; intro b)))
        rename Nat => p3
        refine e_sd (PSub.take [] rfl) ?_
        refine d_rd (fuel := 1) #[true, true, true, true, true, true, false] [4] ?F2_6 hD (by kernel_rfl) ?hr2_6 ?hn2_6
        case hr2_6 =>
          change sO _ _ _ _ _ _ (_ :: []) _ _ _
          skip
          refine s_bld (⟨⟨some ⟨p1, 0, none⟩, f.fBlocks.xs.length, List.replicate f.fBlocks.xs.length (Enc.dflt : Mr)⟩, ⟨some ⟨p3, 0, none⟩, f.fBlocks.xs.length, List.replicate f.fBlocks.xs.length (Enc.dflt : Mr)⟩⟩ : LiveSets) (by show _ = some [Value.slice _ (List.replicate _ _).length _, Value.slice _ (List.replicate _ _).length _].toArray; rw [List.length_replicate]; kernel_rfl) ?_
          (repeat' (first | refine s_nil ?_))
          exact e_F
        refine d_end hD (by kernel_rfl) rfl ?_
        change sO _ _ _ _ _ _ (_ :: []) _ _ _
        (repeat' (first | refine s_nil ?_ | (refine k_store ?_; refine s_stW _ rfl rfl ?_)))
        exact e_ct (p1, p3, p5) (by repeat (first | exact trivial | refine ⟨rfl, ?_⟩)) trivial (PSub.take [1, 0, 0, 0, 0] rfl)
      · change sO _ _ _ _ _ _ (_ :: []) _ _ _
        (repeat' (first | refine s_nil ?_ | (refine s_make rfl rfl om ?_; intro b)))
        rename Nat => p3
        refine e_sd (PSub.take [] rfl) ?_
        refine d_all (fuel := 2) [1] (by kernel_rfl) ⟨?_, trivial⟩
        change sO _ _ _ _ _ _ (_ :: []) _ _ _
        (repeat' (first | refine s_nil ?_ | (refine s_make rfl rfl om ?_; intro b)))
        rename Nat => p1
        refine e_sd (PSub.take [] rfl) ?_
        refine d_rd (fuel := 1) #[true, true, true, true, true, true, false] [4] ?F2_7 hD (by kernel_rfl) ?hr2_7 ?hn2_7
        case hr2_7 =>
          change sO _ _ _ _ _ _ (_ :: []) _ _ _
          skip
          refine s_bld (⟨⟨some ⟨p1, 0, none⟩, f.fBlocks.xs.length, List.replicate f.fBlocks.xs.length (Enc.dflt : Mr)⟩, ⟨some ⟨p3, 0, none⟩, f.fBlocks.xs.length, List.replicate f.fBlocks.xs.length (Enc.dflt : Mr)⟩⟩ : LiveSets) (by show _ = some [Value.slice _ (List.replicate _ _).length _, Value.slice _ (List.replicate _ _).length _].toArray; rw [List.length_replicate]; kernel_rfl) ?_
          (repeat' (first | refine s_nil ?_))
          exact e_F
        refine d_end hD (by kernel_rfl) rfl ?_
        change sO _ _ _ _ _ _ (_ :: []) _ _ _
        (repeat' (first | refine s_nil ?_ | (refine k_store ?_; refine s_stW _ rfl rfl ?_)))
        exact e_ct (p1, p3, p5) (by repeat (first | exact trivial | refine ⟨rfl, ?_⟩)) trivial (PSub.take [0, 0, 0, 0, 0] rfl)
  rintro f1 ⟨pI, pO, pS⟩ _
  dsimp only
  (repeat' (first | refine s_move ?_ | refine s_nil ?_ | (refine k_C ?_; first | refine s_seq ?_ | refine s_region ?_ | refine s_block ?_) | (refine k_E ?_; refine e_seq ?_)))
  have hul := hf.u
  refine s_loop (σ := Nat × (Nat → Nat) × (Nat → Nat) × List Mr × List Mr) (fun q => [(1, .pointer (some ⟨b1, 0, none⟩)), (2, .pointer (some ⟨b2, 0, none⟩)), (3, .int .i64 f.fBlocks.xs.length), (4, .pointer (some ⟨pS, 0, none⟩)), (20, .int .i64 f.fBlocks.xs.length), (21, .int .i64 (q.1 : Nat))])
    (fun q => [own 58 (some ⟨pI, 0, none⟩) (List.replicate f.fBlocks.xs.length (Enc.dflt : Mr)).length f.fBlocks.xs.length q.2.2.2.1, own 58 (some ⟨pO, 0, none⟩) (List.replicate f.fBlocks.xs.length (Enc.dflt : Mr)).length f.fBlocks.xs.length q.2.2.2.2, bagM (usU f).length q.1 q.2.1 (fun _ _ => false), bagM (usU f).length q.1 q.2.2.1 (fun _ _ => false), var 52 pS (⟨⟨some ⟨pI, 0, none⟩, f.fBlocks.xs.length, List.replicate f.fBlocks.xs.length (Enc.dflt : Mr)⟩, ⟨some ⟨pO, 0, none⟩, f.fBlocks.xs.length, List.replicate f.fBlocks.xs.length (Enc.dflt : Mr)⟩⟩ : LiveSets), var 52 b2 (Enc.dflt : LiveSets), var 38 b1 f])
    (fun q => q.1 ≤ f.fBlocks.xs.length ∧ rowOk q.1 f.fBlocks.xs.length q.2.2.2.1 q.2.1 ∧ rowOk q.1 f.fBlocks.xs.length q.2.2.2.2 q.2.2.1) (fun q => f.fBlocks.xs.length - q.1) (0, (fun _ => 0), (fun _ => 0), List.replicate f.fBlocks.xs.length (Enc.dflt : Mr), List.replicate f.fBlocks.xs.length (Enc.dflt : Mr)) (by repeat (first | exact trivial | refine ⟨rfl, ?_⟩)) ⟨Nat.zero_le _, ⟨List.length_replicate, fun j hj => absurd hj (Nat.not_lt_zero j)⟩, ⟨List.length_replicate, fun j hj => absurd hj (Nat.not_lt_zero j)⟩⟩
    (PSub.bagM0.trans (PSub.bagM0.trans ((PSub.take [2, 2, 0, 0, 0, 0, 0] rfl).trans (PSub.eq (by simp only [List.length_replicate]; rfl))))) ?_
  rintro g ⟨k, mi, mo, xi, xo⟩ ⟨hk, hxi, hxo⟩
  dsimp only at hk hxi hxo ⊢
  (repeat' (first | refine s_nil ?_ | (refine k_C ?_; first | refine s_seq ?_ | refine s_region ?_) | (refine k_E ?_; refine e_seq ?_) | (refine k_bin ?_; refine s_lss rfl rfl ?_)))
  (first | (refine k_C ?_; (refine s_ifd rfl ?_ ?_ <;> intro hc <;> try (exfalso; omega))))
  · have hkn : k < f.fBlocks.xs.length := by omega
    (repeat' (first | refine s_move ?_ | refine s_assign ?_ | refine s_nil ?_ | (refine k_C ?_; first | refine s_seq ?_ | refine s_region ?_ | refine s_skip ?_ | refine s_block ?_) | (refine k_E ?_; refine e_seq ?_)))
    refine s_cutE (σ := Nat × Nat) (fun _ => [(1, .pointer (some ⟨b1, 0, none⟩)), (2, .pointer (some ⟨b2, 0, none⟩)), (3, .int .i64 f.fBlocks.xs.length), (4, .pointer (some ⟨pS, 0, none⟩)), (20, .int .i64 f.fBlocks.xs.length), (21, .int .i64 (k : Nat))])
      (fun q => [mp EB 3 q.1 0 (fun _ => none), mp EB 3 q.2 0 (fun _ => none), own 58 (some ⟨pI, 0, none⟩) (List.replicate f.fBlocks.xs.length (Enc.dflt : Mr)).length f.fBlocks.xs.length (xi.set k ⟨some q.1⟩), own 58 (some ⟨pO, 0, none⟩) (List.replicate f.fBlocks.xs.length (Enc.dflt : Mr)).length f.fBlocks.xs.length (xo.set k ⟨some q.2⟩), bagM (usU f).length k mi (fun _ _ => false), bagM (usU f).length k mo (fun _ _ => false), var 52 pS (⟨⟨some ⟨pI, 0, none⟩, f.fBlocks.xs.length, List.replicate f.fBlocks.xs.length (Enc.dflt : Mr)⟩, ⟨some ⟨pO, 0, none⟩, f.fBlocks.xs.length, List.replicate f.fBlocks.xs.length (Enc.dflt : Mr)⟩⟩ : LiveSets), var 52 b2 (Enc.dflt : LiveSets), var 38 b1 f]) (fun _ => True) ?_ ?_
    · refine s_draw [var 52 pS (⟨⟨some ⟨pI, 0, none⟩, f.fBlocks.xs.length, List.replicate f.fBlocks.xs.length (Enc.dflt : Mr)⟩, ⟨some ⟨pO, 0, none⟩, f.fBlocks.xs.length, List.replicate f.fBlocks.xs.length (Enc.dflt : Mr)⟩⟩ : LiveSets)] 10 foI (by kernel_rfl) (PSub.take [4] rfl) fun hD => ?_
      refine d_rd (fuel := 6) #[true, true, true, true, true, true, false, false, false, false, false, false] [0, 1, 2, 3, 4, 5] ?F6_1 hD (by kernel_rfl) ?hr6_1 ?hn6_1
      case hr6_1 =>
        change sO _ _ _ _ _ _ (_ :: _ :: _ :: _ :: _ :: _ :: []) _ _ _
        (repeat' (first | refine s_move ?_ | refine s_nil ?_ | (refine k_load ?_; refine s_ldB rfl rfl ?_) | (refine k_fld ?_; refine s_fldB rfl ?_)))
        exact e_F
      refine d_all (fuel := 5) [6, 7] (by kernel_rfl) ⟨?_, ?_, trivial⟩
      · change sO _ _ _ _ _ _ (_ :: []) _ _ _
        (repeat' (first | refine s_nil ?_ | (refine s_mkmapB ?_; intro b)))
        rename Nat => p6
        refine e_sd (PSub.take [5] rfl) ?_
        refine d_all (fuel := 4) [7, 8] (by kernel_rfl) ⟨?_, ?_, trivial⟩
        · change sO _ _ _ _ _ _ (_ :: []) _ _ _
          (repeat' (first | refine s_nil ?_ | (refine s_mkmapB ?_; intro b)))
          rename Nat => p7
          refine e_sd (PSub.take [6] rfl) ?_
          refine d_all (fuel := 3) [8] (by kernel_rfl) ⟨?_, trivial⟩
          change sO _ _ _ _ _ _ (_ :: []) _ _ _
          (repeat' (first | refine s_nil ?_ | (refine k_idx ?_; refine s_idx rfl rfl om ?_)))
          refine e_sd (PSub.take [6] rfl) ?_
          refine d_all (fuel := 2) [9] (by kernel_rfl) ⟨?_, trivial⟩
          change sO _ _ _ _ _ _ (_ :: []) _ _ _
          (repeat' (first | refine s_nil ?_ | (refine k_store ?_; refine s_st _ rfl rfl om ?_)))
          refine e_sd (PSub.take [6] rfl) ?_
          refine d_end hD (by kernel_rfl) rfl ?_
          change sO _ _ _ _ _ _ (_ :: _ :: []) _ _ _
          (repeat' (first | refine s_nil ?_ | (refine k_idx ?_; refine s_idx rfl rfl om ?_) | (refine k_store ?_; refine s_st _ rfl rfl om ?_)))
          exact e_ct (p6, p7) (by repeat (first | exact trivial | refine ⟨rfl, ?_⟩)) trivial (PSub.take [1, 0, 0, 0, 0, 0, 0, 0, 0] rfl)
        · change sO _ _ _ _ _ _ (_ :: []) _ _ _
          (repeat' (first | refine s_nil ?_ | (refine k_idx ?_; refine s_idx rfl rfl om ?_)))
          refine e_sd (PSub.take [5] rfl) ?_
          refine d_all (fuel := 3) [7, 9] (by kernel_rfl) ⟨?_, ?_, trivial⟩
          · change sO _ _ _ _ _ _ (_ :: []) _ _ _
            (repeat' (first | refine s_nil ?_ | (refine s_mkmapB ?_; intro b)))
            rename Nat => p7
            refine e_sd (PSub.take [6] rfl) ?_
            refine d_all (fuel := 2) [9] (by kernel_rfl) ⟨?_, trivial⟩
            change sO _ _ _ _ _ _ (_ :: []) _ _ _
            (repeat' (first | refine s_nil ?_ | (refine k_store ?_; refine s_st _ rfl rfl om ?_)))
            refine e_sd (PSub.take [6] rfl) ?_
            refine d_end hD (by kernel_rfl) rfl ?_
            change sO _ _ _ _ _ _ (_ :: _ :: []) _ _ _
            (repeat' (first | refine s_nil ?_ | (refine k_idx ?_; refine s_idx rfl rfl om ?_) | (refine k_store ?_; refine s_st _ rfl rfl om ?_)))
            exact e_ct (p6, p7) (by repeat (first | exact trivial | refine ⟨rfl, ?_⟩)) trivial (PSub.take [1, 0, 0, 0, 0, 0, 0, 0, 0] rfl)
          · change sO _ _ _ _ _ _ (_ :: []) _ _ _
            (repeat' (first | refine s_nil ?_ | (refine k_store ?_; refine s_st _ rfl rfl om ?_)))
            refine e_sd (PSub.take [5] rfl) ?_
            refine d_all (fuel := 2) [7] (by kernel_rfl) ⟨?_, trivial⟩
            change sO _ _ _ _ _ _ (_ :: []) _ _ _
            (repeat' (first | refine s_nil ?_ | (refine s_mkmapB ?_; intro b)))
            rename Nat => p7
            refine e_sd (PSub.take [6] rfl) ?_
            refine d_end hD (by kernel_rfl) rfl ?_
            change sO _ _ _ _ _ _ (_ :: _ :: []) _ _ _
            (repeat' (first | refine s_nil ?_ | (refine k_idx ?_; refine s_idx rfl rfl om ?_) | (refine k_store ?_; refine s_st _ rfl rfl om ?_)))
            exact e_ct (p6, p7) (by repeat (first | exact trivial | refine ⟨rfl, ?_⟩)) trivial (PSub.take [1, 0, 0, 0, 0, 0, 0, 0, 0] rfl)
      · change sO _ _ _ _ _ _ (_ :: []) _ _ _
        (repeat' (first | refine s_nil ?_ | (refine s_mkmapB ?_; intro b)))
        rename Nat => p7
        refine e_sd (PSub.take [5] rfl) ?_
        refine d_all (fuel := 4) [6] (by kernel_rfl) ⟨?_, trivial⟩
        change sO _ _ _ _ _ _ (_ :: []) _ _ _
        (repeat' (first | refine s_nil ?_ | (refine s_mkmapB ?_; intro b)))
        rename Nat => p6
        refine e_sd (PSub.take [6] rfl) ?_
        refine d_all (fuel := 3) [8] (by kernel_rfl) ⟨?_, trivial⟩
        change sO _ _ _ _ _ _ (_ :: []) _ _ _
        (repeat' (first | refine s_nil ?_ | (refine k_idx ?_; refine s_idx rfl rfl om ?_)))
        refine e_sd (PSub.take [6] rfl) ?_
        refine d_all (fuel := 2) [9] (by kernel_rfl) ⟨?_, trivial⟩
        change sO _ _ _ _ _ _ (_ :: []) _ _ _
        (repeat' (first | refine s_nil ?_ | (refine k_store ?_; refine s_st _ rfl rfl om ?_)))
        refine e_sd (PSub.take [6] rfl) ?_
        refine d_end hD (by kernel_rfl) rfl ?_
        change sO _ _ _ _ _ _ (_ :: _ :: []) _ _ _
        (repeat' (first | refine s_nil ?_ | (refine k_idx ?_; refine s_idx rfl rfl om ?_) | (refine k_store ?_; refine s_st _ rfl rfl om ?_)))
        exact e_ct (p6, p7) (by repeat (first | exact trivial | refine ⟨rfl, ?_⟩)) trivial (PSub.take [0, 0, 0, 0, 0, 0, 0, 0, 0] rfl)
    rintro f1 ⟨p6, p7⟩ _
    dsimp only
    (repeat' (first | refine s_move ?_ | refine s_nil ?_ | (refine k_C ?_; refine s_region ?_) | (refine k_E ?_; first | refine e_seq ?_ | refine e_bk ?_) | (refine k_bin ?_; refine s_add1 rfl rfl om ?_)))
    refine e_lp (k + 1, updB mi k p6, updB mo k p7, xi.set k ⟨some p6⟩, xo.set k ⟨some p7⟩) (by repeat (first | exact trivial | refine ⟨rfl, ?_⟩)) ⟨by show k + 1 ≤ _; omega, hxi.new hkn p6, hxo.new hkn p7⟩ (by show _ - _ < _ - _; omega) ?_
    have e1 : updB (fun (_ : Nat) (_ : Int) => false) k (fun _ => false) = fun _ _ => false := updB_self
    have h1 := PSub.bagMnew (w0 := w0) (f0 := f0) (U := (usU f).length) (k := k) (mi := mi) (I := fun _ _ => false) (b := p6) (p := fun _ => false) (L := [mp EB 3 p7 (usU f).length (fun _ => none), own 58 (some ⟨pI, 0, none⟩) (List.replicate f.fBlocks.xs.length (Enc.dflt : Mr)).length f.fBlocks.xs.length (xi.set k ⟨some p6⟩), own 58 (some ⟨pO, 0, none⟩) (List.replicate f.fBlocks.xs.length (Enc.dflt : Mr)).length f.fBlocks.xs.length (xo.set k ⟨some p7⟩), bagM (usU f).length k mo (fun _ _ => false), var 52 pS (⟨⟨some ⟨pI, 0, none⟩, f.fBlocks.xs.length, List.replicate f.fBlocks.xs.length (Enc.dflt : Mr)⟩, ⟨some ⟨pO, 0, none⟩, f.fBlocks.xs.length, List.replicate f.fBlocks.xs.length (Enc.dflt : Mr)⟩⟩ : LiveSets), var 52 b2 (Enc.dflt : LiveSets), var 38 b1 f])
    have h2 := PSub.bagMnew (w0 := w0) (f0 := f0) (U := (usU f).length) (k := k) (mi := mo) (I := fun _ _ => false) (b := p7) (p := fun _ => false) (L := [bagM (usU f).length (k + 1) (updB mi k p6) (fun _ _ => false), own 58 (some ⟨pI, 0, none⟩) (List.replicate f.fBlocks.xs.length (Enc.dflt : Mr)).length f.fBlocks.xs.length (xi.set k ⟨some p6⟩), own 58 (some ⟨pO, 0, none⟩) (List.replicate f.fBlocks.xs.length (Enc.dflt : Mr)).length f.fBlocks.xs.length (xo.set k ⟨some p7⟩), var 52 pS (⟨⟨some ⟨pI, 0, none⟩, f.fBlocks.xs.length, List.replicate f.fBlocks.xs.length (Enc.dflt : Mr)⟩, ⟨some ⟨pO, 0, none⟩, f.fBlocks.xs.length, List.replicate f.fBlocks.xs.length (Enc.dflt : Mr)⟩⟩ : LiveSets), var 52 b2 (Enc.dflt : LiveSets), var 38 b1 f])
    rw [e1] at h1 h2
    exact (PSub.mpCut (usU f) U_3 fun k h => absurd rfl h).trans (PSub.swap2.trans ((PSub.mpCut (usU f) U_3 fun k h => absurd rfl h).trans ((PSub.take [1, 3, 0, 0, 0, 0, 0, 0, 0] rfl).trans (h1.trans ((PSub.take [1, 3, 0, 0, 0, 0, 0, 0] rfl).trans (h2.trans (PSub.take [2, 2, 1, 0, 0, 0, 0] rfl)))))))
  have hkE : k = f.fBlocks.xs.length := by omega
  subst hkE
  (repeat' (first | refine s_assign ?_ | refine s_nil ?_ | (refine k_C ?_; first | refine s_seq ?_ | refine s_region ?_ | refine s_block ?_ | refine s_exit ?_) | (refine k_E ?_; first | refine e_seq ?_ | refine e_seq_exit ?_ | refine e_bk_exit ?_ | refine e_lp_exit ?_)))
  refine s_loop (σ := Bool × (Nat → Nat) × (Nat → Nat) × (Nat → Int → Bool) × (Nat → Int → Bool) × List Mr × List Mr) (fun q => [(1, .pointer (some ⟨b1, 0, none⟩)), (2, .pointer (some ⟨b2, 0, none⟩)), (3, .int .i64 f.fBlocks.xs.length), (4, .pointer (some ⟨pS, 0, none⟩)), (6, .bool q.1)])
    (fun q => [own 58 (some ⟨pI, 0, none⟩) (List.replicate f.fBlocks.xs.length (Enc.dflt : Mr)).length f.fBlocks.xs.length q.2.2.2.2.2.1, own 58 (some ⟨pO, 0, none⟩) (List.replicate f.fBlocks.xs.length (Enc.dflt : Mr)).length f.fBlocks.xs.length q.2.2.2.2.2.2, bagM (usU f).length f.fBlocks.xs.length q.2.1 q.2.2.2.1, bagM (usU f).length f.fBlocks.xs.length q.2.2.1 q.2.2.2.2.1, var 52 pS (⟨⟨some ⟨pI, 0, none⟩, f.fBlocks.xs.length, List.replicate f.fBlocks.xs.length (Enc.dflt : Mr)⟩, ⟨some ⟨pO, 0, none⟩, f.fBlocks.xs.length, List.replicate f.fBlocks.xs.length (Enc.dflt : Mr)⟩⟩ : LiveSets), var 52 b2 (Enc.dflt : LiveSets), var 38 b1 f])
    (fun q => InvQ f q.2.2.2.1 q.2.2.2.2.1 ∧ rowOk f.fBlocks.xs.length f.fBlocks.xs.length q.2.2.2.2.2.1 q.2.1 ∧ rowOk f.fBlocks.xs.length f.fBlocks.xs.length q.2.2.2.2.2.2 q.2.2.1 ∧ (q.1 = false → FixQ f q.2.2.2.1 q.2.2.2.2.1)) (fun q => potQ f q.2.2.2.1 + (if q.1 then 1 else 0)) (true, mi, mo, (fun _ _ => false), (fun _ _ => false), xi, xo) (by repeat (first | exact trivial | refine ⟨rfl, ?_⟩)) ⟨InvQ.zero f, hxi, hxo, fun h => (by cases h)⟩ PSub.refl ?_
  rintro g ⟨tb, mi, mo, I, O, xi, xo⟩ ⟨hI, hxi, hxo, hfix⟩
  dsimp only at hI hxi hxo hfix ⊢
  (repeat' (first | refine s_move ?_ | refine s_nil ?_ | (refine k_C ?_; first | refine s_seq ?_ | refine s_region ?_) | (refine k_E ?_; refine e_seq ?_)))
  (first | (refine k_C ?_; (refine s_if rfl ?_ ?_ <;> intro hc)))
  rotate_left
  · have htb : tb = false := hc
    (repeat' (first | refine s_nil ?_ | (refine k_C ?_; first | refine s_seq ?_ | refine s_region ?_ | refine s_exit ?_ | refine s_ret ?_) | (refine k_E ?_; first | refine e_seq ?_ | refine e_seq_exit ?_ | refine e_bk_exit ?_ | refine e_lp_exit ?_) | (refine k_load ?_; refine s_ldBW rfl rfl ?_) | (refine k_store ?_; refine s_stW _ rfl rfl ?_)))
    refine e_doneC rfl rfl rfl rfl [own 58 (some ⟨pI, 0, none⟩) xi.length f.fBlocks.xs.length xi, own 58 (some ⟨pO, 0, none⟩) xo.length f.fBlocks.xs.length xo, bagM (usU f).length f.fBlocks.xs.length mi I, bagM (usU f).length f.fBlocks.xs.length mo O] ((PSub.take [0, 0, 0, 0] rfl).trans (PSub.eq (by rw [List.length_replicate, hxi.1, hxo.1]; rfl)))
      ⟨⟨some ⟨pI, 0, none⟩, f.fBlocks.xs.length, xi⟩, ⟨some ⟨pO, 0, none⟩, f.fBlocks.xs.length, xo⟩, mi, mo, I, O, ?_, hfix htb, hxi, hxo, rfl⟩
    show Value.agg [.slice _ (List.replicate _ _).length _, .slice _ (List.replicate _ _).length _].toArray = Value.agg [.slice _ xi.length _, .slice _ xo.length _].toArray
    rw [List.length_replicate, hxi.1, hxo.1]
  have htb : tb = true := hc
  subst htb
  (repeat' (first | refine s_move ?_ | refine s_assign ?_ | refine s_nil ?_ | (refine k_C ?_; first | refine s_seq ?_ | refine s_region ?_ | refine s_skip ?_ | refine s_block ?_) | (refine k_E ?_; refine e_seq ?_) | (refine k_bin ?_; refine s_sub64 rfl rfl om ?_)))
  refine s_loop (σ := Nat × SQ) (fun q => [(1, .pointer (some ⟨b1, 0, none⟩)), (2, .pointer (some ⟨b2, 0, none⟩)), (3, .int .i64 f.fBlocks.xs.length), (4, .pointer (some ⟨pS, 0, none⟩)), (6, .bool q.2.t), (7, .int .i64 ((q.1 : Int) - 1))])
    (fun q => [own 58 (some ⟨pI, 0, none⟩) (List.replicate f.fBlocks.xs.length (Enc.dflt : Mr)).length f.fBlocks.xs.length q.2.xi, own 58 (some ⟨pO, 0, none⟩) (List.replicate f.fBlocks.xs.length (Enc.dflt : Mr)).length f.fBlocks.xs.length q.2.xo, bagM (usU f).length f.fBlocks.xs.length q.2.mi q.2.I, bagM (usU f).length f.fBlocks.xs.length q.2.mo q.2.O, var 52 pS (⟨⟨some ⟨pI, 0, none⟩, f.fBlocks.xs.length, List.replicate f.fBlocks.xs.length (Enc.dflt : Mr)⟩, ⟨some ⟨pO, 0, none⟩, f.fBlocks.xs.length, List.replicate f.fBlocks.xs.length (Enc.dflt : Mr)⟩⟩ : LiveSets), var 52 b2 (Enc.dflt : LiveSets), var 38 b1 f])
    (fun q => q.1 ≤ f.fBlocks.xs.length ∧ InvQ f q.2.I q.2.O ∧ rowOk f.fBlocks.xs.length f.fBlocks.xs.length q.2.xi q.2.mi ∧ rowOk f.fBlocks.xs.length f.fBlocks.xs.length q.2.xo q.2.mo ∧ (q.2.t = false → ∀ b, q.1 ≤ b → b < f.fBlocks.xs.length → q.2.I b = backP (nth f.fBlocks.xs b) (q.2.O b) ∧ ∀ k, Ctr f q.2.I b k → q.2.O b k = true) ∧ potQ f q.2.I + (if q.2.t then 1 else 0) ≤ potQ f I) (fun q => q.1) (f.fBlocks.xs.length, ⟨false, mi, mo, I, O, xi, xo⟩) (by repeat (first | exact trivial | refine ⟨rfl, ?_⟩)) ⟨Nat.le_refl _, hI, hxi, hxo, fun _ b h1 h2 => absurd h1 (by show ¬ f.fBlocks.xs.length ≤ b; omega), Nat.le_refl _⟩ PSub.refl ?_
  generalize hP0 : potQ f I = P0
  rintro g ⟨r, t, mi, mo, I, O, xi, xo⟩ ⟨hr, hI, hxi, hxo, hall, hpot⟩
  dsimp only at hr hI hxi hxo hall hpot ⊢
  (repeat' (first | refine s_move ?_ | refine s_nil ?_ | (refine k_C ?_; first | refine s_seq ?_ | refine s_region ?_) | (refine k_E ?_; refine e_seq ?_) | (refine k_bin ?_; refine s_geq rfl rfl ?_)))
  (first | (refine k_C ?_; (refine s_ifd rfl ?_ ?_ <;> intro hc <;> try (exfalso; omega))))
  rotate_left
  · have hr0 : r = 0 := by omega
    subst hr0
    (repeat' (first | (refine k_C ?_; refine s_exit ?_) | (refine k_E ?_; first | refine e_seq_exit ?_ | refine e_bk_exit ?_ | refine e_bk ?_ | refine e_lp_exit ?_)))
    exact e_lp (t, mi, mo, I, O, xi, xo) (by repeat (first | exact trivial | refine ⟨rfl, ?_⟩)) ⟨hI, hxi, hxo, fun ht => ⟨hI, fun b hb => hall ht b (Nat.zero_le _) hb⟩⟩ (by show potQ f I + (if t = true then 1 else 0) < potQ f _ + 1; rw [hP0]; omega) PSub.refl
  obtain ⟨q, rfl⟩ : ∃ q, r = q + 1 := ⟨r - 1, by omega⟩
  have hqn : q < f.fBlocks.xs.length := by omega
  have hqB := hf.k q hqn
  rw [show ((q + 1 : Nat) : Int) - 1 = (q : Int) by omega]
  (repeat' (first | refine s_move ?_ | (refine k_C ?_; first | refine s_seq ?_ | refine s_region ?_ | refine s_skip ?_ | refine s_block ?_) | (refine k_E ?_; refine e_seq ?_) | (refine k_load ?_; refine s_ldB rfl rfl ?_) | (refine k_fld ?_; first | refine s_fld rfl ?_ | refine s_fldB rfl ?_) | (refine k_idx ?_; refine s_idxS rfl rfl om ?_)))
  refine s_ldSF2 (s := f.fBlocks) (j := q) rfl rfl (by omega) rfl ?_
  (repeat' (first | refine s_move ?_ | refine s_nil ?_ | (refine k_C ?_; refine s_block ?_) | (refine k_E ?_; refine e_seq ?_) | (refine k_call ?_; refine s_len rfl ?_)))
  have hWl := hqB.w
  refine s_loop (σ := Nat × (Nat → Int → Bool)) (fun z => [(1, .pointer (some ⟨b1, 0, none⟩)), (2, .pointer (some ⟨b2, 0, none⟩)), (3, .int .i64 f.fBlocks.xs.length), (4, .pointer (some ⟨pS, 0, none⟩)), (6, .bool t), (7, .int .i64 (q : Int)), (48, .slice (nth f.fBlocks.xs q).fEnd.fWays.A (nth f.fBlocks.xs q).fEnd.fWays.xs.length (nth f.fBlocks.xs q).fEnd.fWays.c), (49, .int .i64 (nth f.fBlocks.xs q).fEnd.fWays.xs.length), (50, .int .i64 (z.1 : Nat))])
    (fun z => [own 58 (some ⟨pI, 0, none⟩) (List.replicate f.fBlocks.xs.length (Enc.dflt : Mr)).length f.fBlocks.xs.length xi, own 58 (some ⟨pO, 0, none⟩) (List.replicate f.fBlocks.xs.length (Enc.dflt : Mr)).length f.fBlocks.xs.length xo, bagM (usU f).length f.fBlocks.xs.length mi I, bagM (usU f).length f.fBlocks.xs.length mo z.2, var 52 pS (⟨⟨some ⟨pI, 0, none⟩, f.fBlocks.xs.length, List.replicate f.fBlocks.xs.length (Enc.dflt : Mr)⟩, ⟨some ⟨pO, 0, none⟩, f.fBlocks.xs.length, List.replicate f.fBlocks.xs.length (Enc.dflt : Mr)⟩⟩ : LiveSets), var 52 b2 (Enc.dflt : LiveSets), var 38 b1 f])
    (fun z => z.1 ≤ (nth f.fBlocks.xs q).fEnd.fWays.xs.length ∧ InvQ f I z.2 ∧ (∀ c, c ≠ q → z.2 c = O c) ∧ ∀ m, m < z.1 → 0 ≤ (nth (nth f.fBlocks.xs q).fEnd.fWays.xs m).fTo → (nth (nth f.fBlocks.xs q).fEnd.fWays.xs m).fTo < f.fBlocks.xs.length → ∀ k, I (nth (nth f.fBlocks.xs q).fEnd.fWays.xs m).fTo.toNat k = true → k ∉ (nth f.fBlocks.xs (nth (nth f.fBlocks.xs q).fEnd.fWays.xs m).fTo.toNat).fParams.xs → z.2 q k = true) (fun z => (nth f.fBlocks.xs q).fEnd.fWays.xs.length - z.1) (0, O) (by repeat (first | exact trivial | refine ⟨rfl, ?_⟩)) ⟨Nat.zero_le _, hI, fun _ _ => rfl, fun m hm => absurd hm (Nat.not_lt_zero m)⟩ PSub.refl ?_
  rintro g ⟨j, O'⟩ ⟨hj, hI', hOo, hOw⟩
  dsimp only at hj hI' hOo hOw ⊢
  (repeat' (first | refine s_nil ?_ | (refine k_C ?_; first | refine s_seq ?_ | refine s_region ?_) | (refine k_E ?_; refine e_seq ?_) | (refine k_bin ?_; refine s_lss rfl rfl ?_)))
  (first | (refine k_C ?_; (refine s_ifd rfl ?_ ?_ <;> intro hc <;> try (exfalso; omega))))
  · have hjn : j < (nth f.fBlocks.xs q).fEnd.fWays.xs.length := by omega
    (repeat' (first | refine s_move ?_ | refine s_nil ?_ | (refine k_C ?_; first | refine s_seq ?_ | refine s_region ?_ | refine s_skip ?_ | refine s_block ?_ | refine s_exit ?_ | refine s_ift rfl ?_ | (refine s_ifd rfl ?_ ?_ <;> intro hc <;> try (exfalso; omega))) | (refine k_E ?_; first | refine e_seq ?_ | refine e_seq_exit ?_ | refine e_bk_exit ?_) | (refine k_load ?_; first | refine s_ldB rfl rfl ?_ | refine s_ld rfl om rfl ?_ | refine s_ldSA rfl rfl om rfl ?_) | (refine k_bin ?_; first | refine s_lss rfl rfl ?_ | refine s_add1 rfl rfl om ?_ | refine s_geq rfl rfl ?_) | (refine k_fld ?_; refine s_fldB rfl ?_) | (refine k_idx ?_; first | refine s_idxI rfl rfl om om ?_ | refine s_idxS rfl rfl om ?_) | (refine k_store ?_; refine s_stW _ rfl rfl ?_) | (refine k_guard ?_; first | refine s_on rfl rfl ?_ | refine s_off rfl rfl rfl rfl ?_ | (refine s_casesd rfl rfl ?_ ?_ <;> intro hc <;> try (exfalso; omega))) | (refine s_alloc ?_; intro b) | refine s_pick rfl ?_))
    · exact e_lp (j + 1, O') (by repeat (first | exact trivial | refine ⟨rfl, ?_⟩)) ⟨by show j + 1 ≤ _; omega, hI', hOo, fun m hm h0 h1 => by
        rcases Nat.lt_or_ge m j with h | h
        · exact hOw m h h0 h1
        · obtain rfl : m = j := by have : m < j + 1 := hm; omega
          omega⟩ (by show _ - _ < _ - _; omega) (PSub.take [1, 1, 1, 1, 1, 1, 1] rfl)
    · exact e_lp (j + 1, O') (by repeat (first | exact trivial | refine ⟨rfl, ?_⟩)) ⟨by show j + 1 ≤ _; omega, hI', hOo, fun m hm h0 h1 => by
        rcases Nat.lt_or_ge m j with h | h
        · exact hOw m h h0 h1
        · obtain rfl : m = j := by have : m < j + 1 := hm; omega
          omega⟩ (by show _ - _ < _ - _; omega) (PSub.take [1, 1, 1, 1, 1, 1, 1] rfl)
    rename Nat => b9
    have hWR : RdD (okOf w0 f0) w0 (nth (nth f.fBlocks.xs q).fEnd.fWays.xs j) := by infer_instance
    have h00 : 0 ≤ (nth (nth f.fBlocks.xs q).fEnd.fWays.xs j).fTo := by omega
    have h01 : (nth (nth f.fBlocks.xs q).fEnd.fWays.xs j).fTo < f.fBlocks.xs.length := by omega
    generalize hW : nth (nth f.fBlocks.xs q).fEnd.fWays.xs j = W at h00 h01 hWR ⊢
    have hWm : W ∈ (nth f.fBlocks.xs q).fEnd.fWays.xs := hW ▸ nth_mem hjn
    have hTo : W.fTo.toNat < f.fBlocks.xs.length := by omega
    rw [hxi.2 _ hTo]
    refine so_sub (L' := [mp EB 3 (mo q) (usU f).length (setP (O' q)), bagX (usU f).length f.fBlocks.xs.length mo O' q, mp EB 3 (mi W.fTo.toNat) (usU f).length (setP (I W.fTo.toNat)), bagX (usU f).length f.fBlocks.xs.length mi I W.fTo.toNat, var 57 b9 W, own 58 (some ⟨pI, 0, none⟩) (List.replicate f.fBlocks.xs.length (Enc.dflt : Mr)).length f.fBlocks.xs.length xi, own 58 (some ⟨pO, 0, none⟩) (List.replicate f.fBlocks.xs.length (Enc.dflt : Mr)).length f.fBlocks.xs.length xo, var 52 pS (⟨⟨some ⟨pI, 0, none⟩, f.fBlocks.xs.length, List.replicate f.fBlocks.xs.length (Enc.dflt : Mr)⟩, ⟨some ⟨pO, 0, none⟩, f.fBlocks.xs.length, List.replicate f.fBlocks.xs.length (Enc.dflt : Mr)⟩⟩ : LiveSets), var 52 b2 (Enc.dflt : LiveSets), var 38 b1 f])
      ((PSub.take [3, 0, 0, 0, 0, 0, 0, 0] rfl).trans ((PSub.bagMout hTo).trans ((PSub.take [5, 0, 0, 0, 0, 0, 0, 0, 0] rfl).trans ((PSub.bagMout hqn).trans (PSub.take [0, 0, 0, 0, 0, 0, 0, 0, 0, 0] rfl))))) ?_
    refine so_freeze (mi W.fTo.toNat) ?_
    intro es clock
    refine s_rangeR rfl ?_
    intro cnt r hcnt
    (repeat' (first | refine s_nil ?_ | (refine k_C ?_; refine s_block ?_) | (refine k_E ?_; refine e_seq ?_)))
    refine s_loop (σ := (Int → Bool) × Nat × (Int → Bool)) (fun z => [(1, .pointer (some ⟨b1, 0, none⟩)), (2, .pointer (some ⟨b2, 0, none⟩)), (3, .int .i64 f.fBlocks.xs.length), (4, .pointer (some ⟨pS, 0, none⟩)), (6, .bool t), (7, .int .i64 (q : Int)), (48, .slice (nth f.fBlocks.xs q).fEnd.fWays.A (nth f.fBlocks.xs q).fEnd.fWays.xs.length (nth f.fBlocks.xs q).fEnd.fWays.c), (49, .int .i64 (nth f.fBlocks.xs q).fEnd.fWays.xs.length), (50, .int .i64 (j : Nat)), (9, .pointer (some ⟨b9, 0, none⟩)), (69, .pointer (some ⟨r, 0, none⟩))])
      (fun z => [itr Try.prog 3 4 (some (mi W.fTo.toNat)) r es clock z.1 z.2.1, mp EB 3 (mo q) (usU f).length (setP z.2.2), bagX (usU f).length f.fBlocks.xs.length mo O' q, mpz EB 3 (mi W.fTo.toNat) (usU f).length (setP (I W.fTo.toNat)) es clock, bagX (usU f).length f.fBlocks.xs.length mi I W.fTo.toNat, var 57 b9 W, own 58 (some ⟨pI, 0, none⟩) (List.replicate f.fBlocks.xs.length (Enc.dflt : Mr)).length f.fBlocks.xs.length xi, own 58 (some ⟨pO, 0, none⟩) (List.replicate f.fBlocks.xs.length (Enc.dflt : Mr)).length f.fBlocks.xs.length xo, var 52 pS (⟨⟨some ⟨pI, 0, none⟩, f.fBlocks.xs.length, List.replicate f.fBlocks.xs.length (Enc.dflt : Mr)⟩, ⟨some ⟨pO, 0, none⟩, f.fBlocks.xs.length, List.replicate f.fBlocks.xs.length (Enc.dflt : Mr)⟩⟩ : LiveSets), var 52 b2 (Enc.dflt : LiveSets), var 38 b1 f])
      (fun z => InvQ f I (updB O' q z.2.2) ∧ (∀ k, I W.fTo.toNat k = true → z.1 k = false → k ∉ (nth f.fBlocks.xs W.fTo.toNat).fParams.xs → z.2.2 k = true) ∧ ∀ k, O' q k = true → z.2.2 k = true) (fun z => z.2.1) ((fun k => (setP (I W.fTo.toNat) k).isSome), cnt, O' q) (by repeat (first | exact trivial | refine ⟨rfl, ?_⟩)) ⟨by show InvQ f I (updB O' q (O' q)); rw [updB_self]; exact hI', fun k h1 h2 => (by have h2 : (setP (I W.fTo.toNat) k).isSome = false := h2; rw [setP_some, h1] at h2; cases h2), fun _ h => h⟩ PSub.refl ?_
    rintro g ⟨todo, c1, p⟩ ⟨hJ1, hJ2, hJ3⟩
    dsimp only at hJ1 hJ2 hJ3 ⊢
    (repeat' (first | (refine k_C ?_; first | refine s_seq ?_ | refine s_region ?_)))
    refine s_nextR U_3 rfl (fun hfin => ?_) (fun k x cnt' hk hg ht hF hlt => ?_)
    · (repeat' (first | refine s_move ?_ | refine s_nil ?_ | (refine k_C ?_; first | refine s_seq ?_ | refine s_region ?_ | refine s_exit ?_ | refine s_iff rfl ?_) | (refine k_E ?_; first | refine e_seq ?_ | refine e_seq_exit ?_ | refine e_bk_exit ?_ | refine e_bk ?_ | refine e_lp_exit ?_) | (refine k_bin ?_; refine s_add1 rfl rfl om ?_) | refine s_extract rfl rfl ?_))
      refine e_lp (j + 1, updB O' q p) (by repeat (first | exact trivial | refine ⟨rfl, ?_⟩)) ⟨by show j + 1 ≤ _; omega, hJ1, fun c hc => (updB_ne hc).trans (hOo c hc), fun m hm h0 h1 k hk hkp => ?_⟩ (by show _ - _ < _ - _; omega) ?_
      · show updB O' q p q k = true
        rw [updB_same]
        rcases Nat.lt_or_ge m j with h | h
        · exact hJ3 k (hOw m h h0 h1 k hk hkp)
        · obtain rfl : m = j := by have : m < j + 1 := hm; omega
          rw [hW] at hk hkp
          exact hJ2 k hk (hfin k ((setP_ne _ k).2 hk)) hkp
      · have h1 := PSub.bagMin (w0 := w0) (f0 := f0) (U := (usU f).length) (k := f.fBlocks.xs.length) (mi := mo) (I := O') (b := q) (x := mo q) (p := p) hqn (L := [mpz EB 3 (mi W.fTo.toNat) (usU f).length (setP (I W.fTo.toNat)) es clock, bagX (usU f).length f.fBlocks.xs.length mi I W.fTo.toNat, own 58 (some ⟨pI, 0, none⟩) (List.replicate f.fBlocks.xs.length (Enc.dflt : Mr)).length f.fBlocks.xs.length xi, own 58 (some ⟨pO, 0, none⟩) (List.replicate f.fBlocks.xs.length (Enc.dflt : Mr)).length f.fBlocks.xs.length xo, var 52 pS (⟨⟨some ⟨pI, 0, none⟩, f.fBlocks.xs.length, List.replicate f.fBlocks.xs.length (Enc.dflt : Mr)⟩, ⟨some ⟨pO, 0, none⟩, f.fBlocks.xs.length, List.replicate f.fBlocks.xs.length (Enc.dflt : Mr)⟩⟩ : LiveSets), var 52 b2 (Enc.dflt : LiveSets), var 38 b1 f])
        have h2 := PSub.bagMin (w0 := w0) (f0 := f0) (U := (usU f).length) (k := f.fBlocks.xs.length) (mi := mi) (I := I) (b := W.fTo.toNat) (x := mi W.fTo.toNat) (p := I W.fTo.toNat) hTo (L := [bagM (usU f).length f.fBlocks.xs.length mo (updB O' q p), own 58 (some ⟨pI, 0, none⟩) (List.replicate f.fBlocks.xs.length (Enc.dflt : Mr)).length f.fBlocks.xs.length xi, own 58 (some ⟨pO, 0, none⟩) (List.replicate f.fBlocks.xs.length (Enc.dflt : Mr)).length f.fBlocks.xs.length xo, var 52 pS (⟨⟨some ⟨pI, 0, none⟩, f.fBlocks.xs.length, List.replicate f.fBlocks.xs.length (Enc.dflt : Mr)⟩, ⟨some ⟨pO, 0, none⟩, f.fBlocks.xs.length, List.replicate f.fBlocks.xs.length (Enc.dflt : Mr)⟩⟩ : LiveSets), var 52 b2 (Enc.dflt : LiveSets), var 38 b1 f])
        rw [updB_self] at h1
        rw [updB_self, updB_self] at h2
        exact (PSub.take [0, 0, 0, 0, 1, 1, 1, 1, 1] rfl).trans (h1.trans ((PSub.take [1, 0, 0, 0, 0, 0, 0, 0] rfl).trans (PSub.thaw.trans ((PSub.take [0, 1, 0, 0, 0, 0, 0, 0] rfl).trans (h2.trans (PSub.take [2, 2, 0, 0, 0, 0, 0] rfl))))))
    · haveI : RdD (okOf w0 f0) w0 k := ⟨hk⟩
      have hIk : I W.fTo.toNat k = true := (setP_ne _ k).1 (by rw [hF]; simp)
      (repeat' (first | refine s_nil ?_ | (refine k_C ?_; first | refine s_seq ?_ | refine s_region ?_ | refine s_skip ?_ | refine s_block ?_ | refine s_ift rfl ?_) | (refine k_E ?_; refine e_seq ?_) | refine s_extract rfl rfl ?_))
      refine s_entryR rfl ?_
      (repeat' (first | refine s_move ?_ | refine s_assign ?_ | refine s_nil ?_ | (refine k_C ?_; first | refine s_seq ?_ | refine s_region ?_) | (refine k_E ?_; refine e_seq ?_) | (refine k_load ?_; first | refine s_ldB rfl rfl ?_ | refine s_ldS rfl rfl om rfl ?_) | (refine k_fld ?_; first | refine s_fld rfl ?_ | refine s_fldB rfl ?_) | (refine k_idx ?_; refine s_idxSI rfl rfl om om ?_) | refine s_extract rfl rfl ?_))
      refine s_call0 (contains15_spec (nth f.fBlocks.xs W.fTo.toNat).fParams k (by have := (hf.k _ hTo).p; omega)) rfl (fun w1 H => H.rdD (by infer_instance)) ?_
      rintro r' L' ⟨rfl, rfl⟩
      (repeat' (first | refine s_move ?_ | refine s_nil ?_ | (refine k_C ?_; first | refine s_region ?_ | refine s_skip ?_ | (refine s_ifn rfl ?_ ?_ <;> intro hc <;> try (exfalso; omega))) | (refine k_E ?_; first | refine e_seq ?_ | refine e_bk ?_) | (refine k_load ?_; first | refine s_ldB rfl rfl ?_ | refine s_ld rfl om rfl ?_) | (refine k_fld ?_; refine s_fldB rfl ?_) | (refine k_idx ?_; refine s_idx rfl rfl om ?_) | refine s_not rfl ?_))
      · rw [hxo.2 q hqn]
        (repeat' (first | refine s_nil ?_ | (refine k_E ?_; refine e_bk ?_) | refine s_putW (yv := true) rfl rfl rfl trivial om ?_))
        have hkn := hc
        have hCk : Ctr f I q k := ⟨W, hWm, h00, h01, hIk, hkn⟩
        have hCk' : Ctr f I q k := hCk
        have hnew : InvQ f I (updB O' q fun i => p i || decide (i = k)) := by
          have := hJ1.put hqn hCk
          have e : updB (updB O' q p) q (fun j => updB O' q p q j || decide (j = k)) = updB O' q fun i => p i || decide (i = k) := by
            funext c
            by_cases hcq : c = q
            · subst hcq; rw [updB_same, updB_same, updB_same]
            · rw [updB_ne hcq, updB_ne hcq, updB_ne hcq]
          rw [e] at this
          exact this
        refine e_lp ((fun i => todo i && i != k), cnt', fun i => p i || decide (i = k)) (by repeat (first | exact trivial | refine ⟨rfl, ?_⟩)) ⟨hnew, fun i hi ht' hip => ?_, fun i hi => by show (p i || _) = true; rw [hJ3 i hi]; rfl⟩ hlt ?_
        · show (p i || decide (i = k)) = true
          by_cases e : i = k
          · simp [e]
          · have e2 : (i != k) = true := by simpa using e
            have ht' : (todo i && i != k) = false := ht'
            rw [e2, Bool.and_true] at ht'
            rw [hJ2 i hi ht' hip]; rfl
        · dsimp only
          rw [setP_put]
          exact (PSub.take [1, 0, 0, 0, 0, 0, 0, 0, 0, 0, 0] rfl).trans ((PSub.mpCut (usU f) U_3 fun i hi => ((hnew.us q hqn i).2 (by rw [updB_same]; exact (setP_ne _ i).1 hi))).trans PSub.swap2)
      · have hkn := hc
        exact e_lp ((fun i => todo i && i != k), cnt', p) (by repeat (first | exact trivial | refine ⟨rfl, ?_⟩)) ⟨hJ1, fun i hi ht' hip => by
          by_cases e : i = k
          · subst e; exact absurd (by simpa using hkn) hip
          · have e2 : (i != k) = true := by simpa using e
            have ht' : (todo i && i != k) = false := ht'
            rw [e2, Bool.and_true] at ht'
            exact hJ2 i hi ht' hip, hJ3⟩ hlt PSub.refl
  have hjE : j = (nth f.fBlocks.xs q).fEnd.fWays.xs.length := by omega
  subst hjE
  have hCtr : ∀ k, Ctr f I q k → O' q k = true := fun k ⟨w, h1, h2, h3, h4, h5⟩ => by
    obtain ⟨m, hm, rfl⟩ := List.getElem_of_mem h1
    rw [← nth_get hm] at h2 h3 h4 h5
    exact hOw m hm h2 h3 k h4 h5
  (repeat' (first | (refine k_C ?_; first | refine s_seq ?_ | refine s_exit ?_) | (refine k_E ?_; first | refine e_seq ?_ | refine e_seq_exit ?_ | refine e_bk_exit ?_ | refine e_lp_exit ?_)))
  refine s_segs [own 58 (some ⟨pO, 0, none⟩) (List.replicate f.fBlocks.xs.length (Enc.dflt : Mr)).length f.fBlocks.xs.length xo, var 52 pS (⟨⟨some ⟨pI, 0, none⟩, f.fBlocks.xs.length, List.replicate f.fBlocks.xs.length (Enc.dflt : Mr)⟩, ⟨some ⟨pO, 0, none⟩, f.fBlocks.xs.length, List.replicate f.fBlocks.xs.length (Enc.dflt : Mr)⟩⟩ : LiveSets), var 38 b1 f] 11 [([0, 1, 2, 3, 4, 5, 6, 7, 8, 9], some 10)] foI (by kernel_rfl) (PSub.take [1, 3, 4] rfl) ?_
  refine sg_wr (F := ?F24) ?hr24 ?hn24
  case hr24 =>
    change sO _ _ _ _ _ _ (_ :: _ :: _ :: _ :: _ :: _ :: _ :: _ :: _ :: _ :: []) _ _ _
    (repeat' (first | refine s_move ?_ | refine s_nil ?_ | (refine k_load ?_; first | refine s_ldB rfl rfl ?_ | refine s_ld rfl om rfl ?_ | refine s_ldSA rfl rfl om rfl ?_) | (refine k_fld ?_; refine s_fldB rfl ?_) | (refine k_idx ?_; first | refine s_idx rfl rfl om ?_ | refine s_idxS rfl rfl om ?_)))
    exact e_F
  change sO _ _ _ _ _ _ (_ :: []) _ _ _
  rw [hxo.2 q hqn]
  refine s_call0 (backN_spec (nth f.fBlocks.xs q) hqB (some (mo q)) (usU f).length (O' q) (by omega)) rfl (fun w1 H => ⟨H.bagRd 3 rfl hqn, H.rdD (by infer_instance)⟩) ?_
  rintro r' L' ⟨m, N', rfl, hN', rfl⟩
  refine s_nil ?_
  refine e_sg (PSub.take [2, 4, 5] rfl) ?_
  refine sg_nil ?_
  change sO _ _ _ _ _ _ (_ :: []) _ _ _
  refine s_assign ?_
  refine s_nil ?_
  refine e_seq ?_
  repeat refine s_seq ?_
  have hbk := hI'.back hqn
  have hus : ∀ k, backP (nth f.fBlocks.xs q) (O' q) k = true → k ∈ usU f := fun k hk => (hbk.us q hqn k).1 (by rw [updB_same]; exact hk)
  have hus0 : ∀ k, I q k = true → k ∈ usU f := fun k hk => (hI'.us q hqn k).1 hk
  refine s_sub (PSub.mpCut (usU f) U_3 fun k hk => hus k ((setP_ne _ k).1 hk)) ?_
  refine s_sub (L' := [bagM (usU f).length f.fBlocks.xs.length mi I, mp EB 3 m (usU f).length (setP (backP (nth f.fBlocks.xs q) (O' q))), own 58 (some ⟨pI, 0, none⟩) (List.replicate f.fBlocks.xs.length (Enc.dflt : Mr)).length f.fBlocks.xs.length xi, own 58 (some ⟨pO, 0, none⟩) (List.replicate f.fBlocks.xs.length (Enc.dflt : Mr)).length f.fBlocks.xs.length xo, bagM (usU f).length f.fBlocks.xs.length mo O', var 52 pS (⟨⟨some ⟨pI, 0, none⟩, f.fBlocks.xs.length, List.replicate f.fBlocks.xs.length (Enc.dflt : Mr)⟩, ⟨some ⟨pO, 0, none⟩, f.fBlocks.xs.length, List.replicate f.fBlocks.xs.length (Enc.dflt : Mr)⟩⟩ : LiveSets), var 52 b2 (Enc.dflt : LiveSets), var 38 b1 f]) (PSub.take [3, 0, 0, 0, 0, 0, 0, 0] rfl) ?_
  refine s_sub (PSub.bagMout hqn) ?_
  refine s_sub (L' := [mp EB 3 m (usU f).length (setP (backP (nth f.fBlocks.xs q) (O' q))), mp EB 3 (mi q) (usU f).length (setP (I q)), bagX (usU f).length f.fBlocks.xs.length mi I q, own 58 (some ⟨pI, 0, none⟩) (List.replicate f.fBlocks.xs.length (Enc.dflt : Mr)).length f.fBlocks.xs.length xi, own 58 (some ⟨pO, 0, none⟩) (List.replicate f.fBlocks.xs.length (Enc.dflt : Mr)).length f.fBlocks.xs.length xo, bagM (usU f).length f.fBlocks.xs.length mo O', var 52 pS (⟨⟨some ⟨pI, 0, none⟩, f.fBlocks.xs.length, List.replicate f.fBlocks.xs.length (Enc.dflt : Mr)⟩, ⟨some ⟨pO, 0, none⟩, f.fBlocks.xs.length, List.replicate f.fBlocks.xs.length (Enc.dflt : Mr)⟩⟩ : LiveSets), var 52 b2 (Enc.dflt : LiveSets), var 38 b1 f]) (PSub.take [2, 0, 0, 0, 0, 0, 0, 0, 0] rfl) ?_
  refine s_cutE (σ := Bool) (fun t' => [(1, .pointer (some ⟨b1, 0, none⟩)), (2, .pointer (some ⟨b2, 0, none⟩)), (3, .int .i64 f.fBlocks.xs.length), (4, .pointer (some ⟨pS, 0, none⟩)), (6, .bool t'), (7, .int .i64 (q : Int)), (11, .map (some m))])
    (fun _ => [mp EB 3 m (usU f).length (setP (backP (nth f.fBlocks.xs q) (O' q))), mp EB 3 (mi q) (usU f).length (setP (I q)), bagX (usU f).length f.fBlocks.xs.length mi I q, own 58 (some ⟨pI, 0, none⟩) (List.replicate f.fBlocks.xs.length (Enc.dflt : Mr)).length f.fBlocks.xs.length xi, own 58 (some ⟨pO, 0, none⟩) (List.replicate f.fBlocks.xs.length (Enc.dflt : Mr)).length f.fBlocks.xs.length xo, bagM (usU f).length f.fBlocks.xs.length mo O', var 52 pS (⟨⟨some ⟨pI, 0, none⟩, f.fBlocks.xs.length, List.replicate f.fBlocks.xs.length (Enc.dflt : Mr)⟩, ⟨some ⟨pO, 0, none⟩, f.fBlocks.xs.length, List.replicate f.fBlocks.xs.length (Enc.dflt : Mr)⟩⟩ : LiveSets), var 52 b2 (Enc.dflt : LiveSets), var 38 b1 f]) (fun t' => t' = (t || !decide (cardU (usU f) (backP (nth f.fBlocks.xs q) (O' q)) = cardU (usU f) (I q)))) ?_ ?_
  · (repeat' (first | refine s_move ?_ | refine s_assign ?_ | refine s_nil ?_ | (refine k_C ?_; refine s_stillP foI rfl (by kernel_rfl) ?_) | (refine k_guard ?_; first | refine s_on rfl rfl ?_ | refine s_off rfl rfl rfl rfl ?_ | (refine s_cases rfl rfl ?_ ?_ <;> intro hc)) | refine s_pick rfl ?_))
    · have ht := hc
      subst ht
      exact e_ct true (by repeat (first | exact trivial | refine ⟨rfl, ?_⟩)) (by show true = (true || _); rfl) PSub.refl
    have ht := hc
    subst ht
    refine s_lenC rfl ?_
    intro ks hk1 hk2
    (repeat' (first | refine s_move ?_ | (refine k_load ?_; first | refine s_ldB rfl rfl ?_ | refine s_ld rfl om rfl ?_) | (refine k_fld ?_; refine s_fldB rfl ?_) | (refine k_idx ?_; refine s_idx rfl rfl om ?_) | (refine k_guard ?_; refine s_on rfl rfl ?_)))
    rw [hxi.2 q hqn]
    refine s_lenC rfl ?_
    intro ks' hk3 hk4
    (repeat' (first | refine s_assign ?_ | refine s_nil ?_ | (refine k_bin ?_; refine s_neq rfl rfl ?_) | (refine k_guard ?_; refine s_on rfl rfl ?_) | refine s_pick rfl ?_))
    refine e_ct (!decide (cardU (usU f) (backP (nth f.fBlocks.xs q) (O' q)) = cardU (usU f) (I q))) ?_ (by show _ = (false || _); rw [Bool.false_or]) PSub.refl
    have e1 := cardU_of hk1 hk2 hus
    have e2 := cardU_of hk3 hk4 hus0
    rw [← e1, ← e2]
    have e3 : decide (ks.length = ks'.length) = decide ((ks.length : Int) = (ks'.length : Int)) := decide_eq_decide.2 Int.ofNat_inj.symm
    rw [e3]
    exact (by repeat (first | exact trivial | refine ⟨rfl, ?_⟩))
  intro f2 t' ht'
  (repeat' (first | refine s_move ?_ | refine s_assign ?_ | refine s_nil ?_ | (refine k_C ?_; refine s_region ?_) | (refine k_E ?_; first | refine e_seq ?_ | refine e_bk ?_) | (refine k_load ?_; refine s_ldB rfl rfl ?_) | (refine k_bin ?_; refine s_sub64 rfl rfl om ?_) | (refine k_fld ?_; refine s_fldB rfl ?_) | (refine k_idx ?_; refine s_idx rfl rfl om ?_) | (refine k_store ?_; refine s_st _ rfl rfl om ?_)))
  refine e_lp (q, ⟨t', updB mi q m, mo, updB I q (backP (nth f.fBlocks.xs q) (O' q)), O', xi.set q ⟨some m⟩, xo⟩) (by repeat (first | exact trivial | refine ⟨rfl, ?_⟩)) ⟨by show q ≤ _; omega, hbk, hxi.set hqn m, hxo, fun htf b hb1 hb2 => ?_, ?_⟩ (by show q < q + 1; omega) ?_
  · have htf : t' = false := htf
    rw [htf] at ht'
    have h1 := Bool.or_eq_false_iff.1 ht'.symm
    have h2 : cardU (usU f) (backP (nth f.fBlocks.xs q) (O' q)) = cardU (usU f) (I q) := by have := h1.2; simpa using this
    have hlow : I q = (backP (nth f.fBlocks.xs q) (O' q)) := cardU_eq (hI'.low q hqn) hus h2.symm
    show updB I q (backP (nth f.fBlocks.xs q) (O' q)) b = backP (nth f.fBlocks.xs b) (O' b) ∧ ∀ k, Ctr f (updB I q (backP (nth f.fBlocks.xs q) (O' q))) b k → O' b k = true
    rw [← hlow, updB_self]
    have hb1 : q ≤ b := hb1
    rcases Nat.lt_or_ge q b with h | h
    · rw [hOo b (by omega)]
      exact hall h1.1 b h hb2
    · obtain rfl : b = q := by omega
      exact ⟨hlow, hCtr⟩
  · show potQ f (updB I q (backP (nth f.fBlocks.xs q) (O' q))) + (if t' = true then 1 else 0) ≤ P0
    have h1 := potQ_upd (f := f) (I := I) (b := q) (p := (backP (nth f.fBlocks.xs q) (O' q))) hqn
    have h2 := cardU_mono (us := usU f) (hI'.low q hqn)
    have h3 := cardU_le (usU f) (backP (nth f.fBlocks.xs q) (O' q))
    have h4 := cardU_le (usU f) (I q)
    cases t with
    | true =>
      simp only [if_true] at hpot
      split <;> omega
    | false =>
      by_cases hce : cardU (usU f) (backP (nth f.fBlocks.xs q) (O' q)) = cardU (usU f) (I q)
      · have : t' = false := by rw [ht']; simp [hce]
        subst this
        simp only [Bool.false_eq_true, if_false] at hpot ⊢
        omega
      · simp only [Bool.false_eq_true, if_false] at hpot
        split <;> omega
  · have h1 := PSub.bagMin (w0 := w0) (f0 := f0) (U := (usU f).length) (k := f.fBlocks.xs.length) (mi := mi) (I := I) (b := q) (x := m) (p := (backP (nth f.fBlocks.xs q) (O' q))) hqn (L := [own 58 (some ⟨pI, 0, none⟩) (List.replicate f.fBlocks.xs.length (Enc.dflt : Mr)).length f.fBlocks.xs.length (xi.set q ⟨some m⟩), own 58 (some ⟨pO, 0, none⟩) (List.replicate f.fBlocks.xs.length (Enc.dflt : Mr)).length f.fBlocks.xs.length xo, bagM (usU f).length f.fBlocks.xs.length mo O', var 52 pS (⟨⟨some ⟨pI, 0, none⟩, f.fBlocks.xs.length, List.replicate f.fBlocks.xs.length (Enc.dflt : Mr)⟩, ⟨some ⟨pO, 0, none⟩, f.fBlocks.xs.length, List.replicate f.fBlocks.xs.length (Enc.dflt : Mr)⟩⟩ : LiveSets), var 52 b2 (Enc.dflt : LiveSets), var 38 b1 f])
    exact (PSub.take [0, 1, 1, 1, 1, 1, 1, 1] rfl).trans (h1.trans (PSub.take [1, 1, 0, 0, 0, 0, 0] rfl))
end Go.Proofs.Ytfplmdjlgjgbgaa
