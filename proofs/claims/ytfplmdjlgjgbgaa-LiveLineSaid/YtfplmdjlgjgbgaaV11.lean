/- Layer 15: Paint, walked. -/
import Derived.Test.YtfplmdjlgjgbgaaV10
namespace Go.Proofs.Ytfplmdjlgjgbgaa
set_option linter.unusedVariables false
set_option linter.unusedSimpArgs false
open Go Go.RowKit

def jobsF (f : SsaFunc) (I O : Nat → Int → Bool) (o : List Int) : List (Int × (Int → Bool)) := o.flatMap fun q => jobsB (nth f.fBlocks.xs q.toNat) (I q.toNat) (O q.toNat)
set_option maxHeartbeats 8000000 in
theorem paint15_spec (f : SsaFunc) (hf : OkF f) (most : Int) : Spec Try.prog 9 [.agg (Enc.enc f).toArray, .int .i64 most] [] (fun ok w => RdD ok w f) fun r L' =>
    ((most < 1 ∨ 64 < most) ∧ r = .tuple #[.map none, .int .i64 1] ∧ L' = []) ∨ (1 ≤ most ∧ most ≤ 64 ∧ ∃ I O o, FixQ f I O ∧ OrdF f o ∧
      ((∃ rb N R, r = .tuple #[.map (some rb), .int .i64 0] ∧ PickL most.toNat (jobsF f I O o) (fun _ => none) R ∧ L' = [mp EI 3 rb N R]) ∨ (r = .tuple #[.map none, .int .i64 30] ∧ PickF most.toNat (jobsF f I O o) (fun _ => none) ∧ L' = []))) := by
  refine spec_of Try.func9 rfl rfl fun w0 f0 hR => ?_
  have hn := hf.b
  have hul := hf.u
  (repeat' (first | refine s_move ?_ | refine s_assign ?_ | refine s_nil ?_ | (refine k_C ?_; first | refine s_seq ?_ | refine s_region ?_ | refine s_skip ?_ | refine s_ret ?_ | refine s_ift rfl ?_ | (refine s_ifd rfl ?_ ?_ <;> intro hc <;> try (exfalso; omega))) | (refine k_E ?_; first | refine e_seq ?_ | refine e_seq_ret ?_) | (refine k_load ?_; refine s_ldBW rfl rfl ?_) | (refine k_bin ?_; first | refine s_lss rfl rfl ?_ | refine s_gtr rfl rfl ?_) | (refine k_guard ?_; first | refine s_on rfl rfl ?_ | refine s_off rfl rfl rfl rfl ?_ | (refine s_casesd rfl rfl ?_ ?_ <;> intro hc <;> try (exfalso; omega))) | (refine s_box _ rfl ?_; intro b) | refine s_pick rfl ?_))
  · exact e_done2 rfl rfl rfl [] (PSub.take [] rfl) (.inl ⟨.inl (by omega), rfl, rfl⟩)
  · exact e_done2 rfl rfl rfl [] (PSub.take [] rfl) (.inl ⟨.inr (by omega), rfl, rfl⟩)
  obtain ⟨M, rfl⟩ : ∃ M : Nat, most = (M : Int) := ⟨most.toNat, by omega⟩
  rw [Int.toNat_natCast]
  have hM : M ≤ 64 := by omega
  have hM1 : 1 ≤ M := by omega
  obtain ⟨b2, rfl⟩ : ∃ q, q = b := ⟨_, rfl⟩
  refine s_call0 (of15_spec f hf) rfl (fun w1 H => H.rdD (by infer_instance)) ?_
  rintro r L' ⟨Si, So, mi, mo, I, O, rfl, hQ, hSi, hSo, rfl⟩
  (repeat' (first | refine s_move ?_ | refine s_nil ?_ | (refine k_C ?_; first | refine s_seq ?_ | refine s_region ?_) | (refine k_E ?_; refine e_seq ?_) | (refine k_store ?_; refine s_stW _ rfl rfl ?_) | (refine s_alloc ?_; intro b) | (refine s_mkmapI ?_; intro b)))
  rename_i b6
  obtain ⟨rb, rfl⟩ : ∃ q, q = b := ⟨_, rfl⟩
  refine s_bld (⟨⟨some rb⟩, (M : Int)⟩ : LivePainter) (by kernel_rfl) ?_
  (repeat' (first | refine s_assign ?_ | refine s_nil ?_ | (refine k_C ?_; first | refine s_seq ?_ | refine s_region ?_) | (refine k_E ?_; refine e_seq ?_) | (refine k_load ?_; refine s_ldBW rfl rfl ?_) | (refine s_box _ rfl ?_; intro b)))
  obtain ⟨bp, rfl⟩ : ∃ q, q = b := ⟨_, rfl⟩
  refine s_call0 (new15_spec f hf) rfl (fun w1 H => H.rdD (by infer_instance)) ?_
  rintro r L' ⟨gb, g, rfl, hG, rfl⟩
  refine so_sub (L' := [var 78 gb g, own 23 g.fOuts.A g.fOuts.xs.length g.fOuts.c g.fOuts.xs, rws 3 g.fOuts.xs] ++ [var 67 bp (⟨⟨some rb⟩, (M : Int)⟩ : LivePainter), mp EI 3 rb 0 (fun _ => none), var 52 b6 (⟨Si, So⟩ : LiveSets), own 58 Si.A Si.xs.length Si.c Si.xs, own 58 So.A So.xs.length So.c So.xs, bagM (usU f).length f.fBlocks.xs.length mi I, bagM (usU f).length f.fBlocks.xs.length mo O, var 38 b2 f]) (PSub.take [0, 0, 0, 3, 3, 3, 3, 3, 3, 3, 3] rfl) ?_
  refine s_call0 (ordF_spec f hf gb g hG) rfl (fun w1 H => graph_rd hf hG H) ?_
  rintro r L' ⟨A, c, o, rfl, ho, rfl⟩
  obtain ⟨hov, hol⟩ := ho.at
  (repeat' (first | refine s_move ?_ | refine s_nil ?_ | (refine k_C ?_; refine s_block ?_) | (refine k_E ?_; refine e_seq ?_) | (refine k_call ?_; refine s_len rfl ?_)))
  refine s_loop (σ := Nat × (Int → Option Int) × Nat) (fun z => [(2, .pointer (some ⟨b2, 0, none⟩)), (6, .pointer (some ⟨b6, 0, none⟩)), (7, .pointer (some ⟨bp, 0, none⟩)), (24, .slice A o.length c), (25, .int .i64 o.length), (26, .int .i64 (z.1 : Nat))])
    (fun z => [own 3 A o.length c o, var 67 bp (⟨⟨some rb⟩, (M : Int)⟩ : LivePainter), mp EI 3 rb z.2.2 z.2.1, var 52 b6 (⟨Si, So⟩ : LiveSets), own 58 Si.A Si.xs.length Si.c Si.xs, own 58 So.A So.xs.length So.c So.xs, bagM (usU f).length f.fBlocks.xs.length mi I, bagM (usU f).length f.fBlocks.xs.length mo O, var 38 b2 f])
    (fun z => z.1 ≤ o.length ∧ RegsOk M z.2.1 ∧ z.2.2 ≤ 2000 * z.1 ∧ PickL M (jobsF f I O (o.take z.1)) (fun _ => none) z.2.1) (fun z => o.length - z.1) (0, (fun _ => none), 0) (by repeat (first | exact trivial | refine ⟨rfl, ?_⟩)) ⟨Nat.zero_le _, fun _ _ h => (by cases h), Nat.le_refl _, .nil⟩ (PSub.take [0, 3, 3, 3, 3, 3, 3, 3, 3] rfl) ?_
  rintro g2 ⟨i, R, N⟩ ⟨hi, hRg, hN, hP⟩
  dsimp only at hi hRg hN hP ⊢
  (repeat' (first | refine s_nil ?_ | (refine k_C ?_; first | refine s_seq ?_ | refine s_region ?_) | (refine k_E ?_; refine e_seq ?_) | (refine k_bin ?_; refine s_lss rfl rfl ?_)))
  (first | (refine k_C ?_; (refine s_ifd rfl ?_ ?_ <;> intro hc <;> try (exfalso; omega))))
  rotate_left
  · have hiE : i = o.length := by omega
    subst hiE
    rw [List.take_length] at hP
    (repeat' (first | refine s_move ?_ | refine s_assign ?_ | refine s_nil ?_ | (refine k_C ?_; first | refine s_seq ?_ | refine s_region ?_ | refine s_exit ?_ | refine s_ret ?_) | (refine k_E ?_; first | refine e_seq ?_ | refine e_seq_exit ?_ | refine e_bk_exit ?_ | refine e_lp_exit ?_) | (refine k_load ?_; refine s_ldB rfl rfl ?_) | (refine k_fld ?_; refine s_fldB rfl ?_) | refine s_nilck rfl ?_))
    exact e_done2 rfl rfl rfl [mp EI 3 rb N R] (PSub.take [2] rfl) (.inr ⟨by omega, by omega, I, O, o, hQ, ho, .inl ⟨rb, N, R, rfl, hP, rfl⟩⟩)
  have hin : i < o.length := by omega
  obtain ⟨hq0, hq1⟩ := hov _ (nth_mem hin)
  have hSl := hSi.1
  have hSl2 := hSo.1
  have hqn : (nth o i).toNat < f.fBlocks.xs.length := by omega
  (repeat' (first | refine s_assign ?_ | refine s_nil ?_ | (refine k_C ?_; first | refine s_seq ?_ | refine s_region ?_ | refine s_skip ?_ | refine s_block ?_) | (refine k_E ?_; refine e_seq ?_) | (refine k_load ?_; refine s_ld rfl om rfl ?_) | (refine k_idx ?_; refine s_idx rfl rfl om ?_)))
  refine s_tail (F := ?F8) 8 [0, 1, 2, 3, 4, 5, 6, 7] foI (by kernel_rfl) ?hr8 ?hn8
  case hr8 =>
    change sO _ _ _ _ _ _ (_ :: _ :: _ :: _ :: _ :: _ :: _ :: _ :: []) _ _ _
    (repeat' (first | refine s_move ?_ | refine s_nil ?_ | (refine k_load ?_; first | refine s_ldB rfl rfl ?_ | refine s_ldBW rfl rfl ?_ | refine s_ldSA rfl rfl om rfl ?_) | (refine k_fld ?_; refine s_fldB rfl ?_) | (refine k_idx ?_; refine s_idxSI rfl rfl om om ?_)))
    exact e_F
  change sO _ _ _ _ _ _ (_ :: _ :: []) _ _ _
  have hjobs : jobsF f I O (o.take (i + 1)) = jobsF f I O (o.take i) ++ jobsB (nth f.fBlocks.xs (nth o i).toNat) (I (nth o i).toNat) (O (nth o i).toNat) := by rw [← takeN hin]; unfold jobsF; rw [List.flatMap_append]; simp
  have hall : jobsF f I O o = jobsF f I O (o.take (i + 1)) ++ jobsF f I O (o.drop (i + 1)) := by unfold jobsF; rw [← List.flatMap_append, List.take_append_drop]
  obtain ⟨q, hqi⟩ : ∃ q : Nat, nth o i = (q : Int) := ⟨(nth o i).toNat, by omega⟩
  rw [hqi] at hqn hjobs ⊢
  rw [Int.toNat_natCast] at hqn hjobs ⊢
  refine s_call (L2 := [own 3 A o.length c o, var 52 b6 (⟨Si, So⟩ : LiveSets), own 58 Si.A Si.xs.length Si.c Si.xs, own 58 So.A So.xs.length So.c So.xs, bagM (usU f).length f.fBlocks.xs.length mi I, bagM (usU f).length f.fBlocks.xs.length mo O, var 38 b2 f]) [1, 1] (block_spec f hf Si So mi mo I O ⟨hSi, hSo⟩ hQ.inv q hqn (nth f.fBlocks.xs q) rfl bp rb N M R hM (by omega) hRg) rfl rfl (fun w1 f1 C => ⟨⟨C.ownI Si.A (fun _ _ => trivial), C.ownI So.A (fun _ _ => trivial), fun b hb => ⟨C.bagRd 4 rfl hb, C.bagRd 5 rfl hb⟩⟩, C.rd (by infer_instance)⟩) ?_
  rintro r' L' ⟨t, R', N', rfl, hN', hRg', rfl, hres⟩
  rcases hres with ⟨rfl, hpl⟩ | ⟨rfl, pre, v, p, post, R1, h1, h2, h3⟩
  · (repeat' (first | refine s_move ?_ | refine s_nil ?_ | (refine k_C ?_; first | refine s_region ?_ | refine s_skip ?_ | refine s_iff rfl ?_) | (refine k_E ?_; first | refine e_seq ?_ | refine e_bk ?_) | (refine k_bin ?_; refine s_add1 rfl rfl om ?_) | refine s_not rfl ?_))
    exact e_lp (i + 1, R', N') (by repeat (first | exact trivial | refine ⟨rfl, ?_⟩)) ⟨by show i + 1 ≤ _; omega, hRg', by show N' ≤ 2000 * (i + 1); omega, by show PickL M (jobsF f I O (o.take (i + 1))) _ R'; rw [hjobs]; exact hP.app hpl⟩ (by show _ - _ < _ - _; omega) (PSub.take [2, 0, 0, 0, 0, 0, 0, 0, 0] rfl)
  · (repeat' (first | refine s_assign ?_ | refine s_nil ?_ | (refine k_C ?_; first | refine s_seq ?_ | refine s_region ?_ | refine s_ret ?_ | refine s_ift rfl ?_) | (refine k_E ?_; first | refine e_seq ?_ | refine e_seq_ret ?_ | refine e_bk_ret ?_ | refine e_lp_ret ?_) | refine s_not rfl ?_))
    refine e_done2 rfl rfl rfl [] (PSub.take [] rfl) (.inr ⟨by omega, by omega, I, O, o, hQ, ho, .inr ⟨rfl, ⟨jobsF f I O (o.take i) ++ pre, v, p, post ++ jobsF f I O (o.drop (i + 1)), R1, ?_, hP.app h2, h3⟩, rfl⟩⟩)
    rw [hall, hjobs, h1]
    simp
end Go.Proofs.Ytfplmdjlgjgbgaa
