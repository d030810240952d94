/- Layer 15: Press, walked. -/
import Derived.Test.YtfplmdjlgjgbgaaV9
namespace Go.Proofs.Ytfplmdjlgjgbgaa
set_option linter.unusedVariables false
set_option linter.unusedSimpArgs false
open Go Go.RowKit

theorem Ctx.bagRd {w0 w1 : World} {f0 f1 : FP} {L1 L2 : List HP} {U k b : Nat} {mi : Nat → Nat} {I : Nat → Int → Bool} (C : Ctx w0 f0 L1 L2 w1 f1) (i : Nat) (hi : L2[i]? = some (bagM U k mi I)) (hb : b < k) : RdPs (some (mi b)) U (I b) (okOf w1 f1) w1 := by
  obtain ⟨g, hA, hok⟩ := C.piece hi
  obtain ⟨g1, h1, h2⟩ := star_at hA (i := b) (X := mp EB 3 (mi b) U (setP (I b))) (by rw [List.getElem?_map, List.getElem?_range hb]; rfl)
  exact .inr ⟨mi b, rfl, hok _ (h2 _ ((h1.1 _).2 rfl)), h1.2⟩
theorem waysF_le {f : SsaFunc} (hf : OkF f) : ∀ l ∈ waysF f, l.length ≤ 1000 := fun l hl => by
  obtain ⟨b, hb, rfl⟩ := List.mem_map.1 hl
  obtain ⟨k, hk, rfl⟩ := List.getElem_of_mem hb
  rw [List.length_map, ← nth_get hk]
  exact (hf.k k hk).w
/-- The order in which blocks are gone over. -/
def OrdF (f : SsaFunc) (o : List Int) : Prop := (f.fBlocks.xs.length = 0 ∧ o = []) ∨ (0 < f.fBlocks.xs.length ∧ ∃ fin, T0 f.fBlocks.xs.length (outsOf (waysF f)) fin ∧ fin.2.length ≤ f.fBlocks.xs.length ∧ o = fin.2.reverse)
theorem OrdF.at {f : SsaFunc} {o : List Int} (h : OrdF f o) : (∀ b ∈ o, 0 ≤ b ∧ b < f.fBlocks.xs.length) ∧ o.length ≤ f.fBlocks.xs.length := by
  rcases h with ⟨h, rfl⟩ | ⟨h, fin, h1, h2, rfl⟩
  · exact ⟨fun b hb => by (cases hb), Nat.zero_le _⟩
  · exact ⟨fun b hb => h1.valid h b (List.mem_reverse.1 hb), by rw [List.length_reverse]; exact h2⟩
theorem Spec.weakenP {P : Program} {g : FuncId} {vs : List Value} {L1 : List HP} {Rd : FP → World → Prop} {RR RR' : Value → List HP → Prop} (h : Spec P g vs L1 Rd RR) (hq : ∀ v L', RR v L' → ∃ L'', RR' v L'' ∧ ∀ w0 f0, PSub w0 f0 L' L'') : Spec P g vs L1 Rd RR' :=
  fun w1 f1 hs hR => (h w1 f1 hs hR).mono fun v w' ⟨L', h1, h2⟩ => by
    obtain ⟨L'', h3, h4⟩ := hq v L' h1
    exact ⟨L'', h3, h4 _ _ _ h2⟩
theorem St.varRd {w0 w : World} {f0 : FP} {L : List HP} {α : Type} [I : Enc α] {e : TypeId} {b : Nat} {u : α} {put : HP → List HP} (H : St w0 f0 L w) [hp : PcB L b (var e b u) put] : RdB (okOf w fun _ => False) w b u := by
  obtain ⟨i, h1, _⟩ := hp.at_
  obtain ⟨g, hg, _⟩ := H.focus i h1
  refine ⟨⟨⟨(var e b u).dom hg b ((hg.1 b).2 rfl), id⟩, fun j v hj => ?_⟩⟩
  rw [add_spot rfl]
  show w.cell? ⟨b, 0 + j, none⟩ = some v
  rw [Nat.zero_add, blk.cell hg j]; exact hj
theorem ordF_spec (f : SsaFunc) (hf : OkF f) (gb : Nat) (g : FlowGraph) (hG : GraphOk f g) : Spec Try.prog 18 [.pointer (some ⟨gb, 0, none⟩)] [] (fun ok w => RdB ok w gb g ∧ RdD ok w g.fOuts) fun v L' => ∃ A c o, v = .slice A o.length c ∧ OrdF f o ∧ L' = [own 3 A o.length c o] := by
  refine (order15_spec hf.b waysF_len (waysF_le hf) hG.ol hG.o).weakenP ?_
  rintro v L' (⟨h1, rfl, rfl⟩ | ⟨h1, A, l, c, fin, rfl, h2, h3, rfl, rfl⟩)
  · exact ⟨_, ⟨none, 0, [], rfl, .inl ⟨h1, rfl⟩, rfl⟩, fun _ _ => PSub.nilOwn (α := Int) 3⟩
  · exact ⟨_, ⟨A, c, fin.2.reverse, by rw [List.length_reverse], .inr ⟨h1, fin, h2, h3, rfl⟩, by rw [List.length_reverse]⟩, fun _ _ => PSub.refl⟩
theorem PSub.under {w0 : World} {f0 : FP} {L L' : List HP} {X : HP} (h : ∀ w0 f0, PSub w0 f0 L L') : PSub w0 f0 (X :: L) (X :: L') := fun w H => by
  obtain ⟨g, ⟨f1, f2, e1, e2, h1, h2⟩, hb⟩ := H.sf
  obtain ⟨_, f3, h3, h4⟩ := h w f2 w (St.start h2)
  have h5 : ∀ b, f3 b → f2 b := fun b hb3 => (h4 b hb3).resolve_right (Nat.not_le.2 (h3.dom b hb3))
  exact ⟨H.step, fun b => f1 b ∨ f3 b, ⟨f1, f3, fun b => Iff.rfl, fun b hb1 hb3 => e2 b hb1 (h5 b hb3), h1, h3⟩, fun b hb' => hb b ((e1 b).2 (hb'.imp id (h5 b)))⟩
theorem graph_rd {w0 w : World} {f0 : FP} {L : List HP} {f : SsaFunc} {gb : Nat} {g : FlowGraph} (hf : OkF f) (hG : GraphOk f g) (H : St w0 f0 ([var 78 gb g, own 23 g.fOuts.A g.fOuts.xs.length g.fOuts.c g.fOuts.xs, rws 3 g.fOuts.xs] ++ L) w) : RdB (okOf w fun _ => False) w gb g ∧ RdD (okOf w fun _ => False) w g.fOuts := by
  have H' : St w0 f0 (var 78 gb g :: own 23 g.fOuts.A g.fOuts.xs.length g.fOuts.c g.fOuts.xs :: rws 3 g.fOuts.xs :: L) w := H
  refine ⟨H'.varRd, (H'.rdRows (A := g.fOuts.A) 2 rfl fun s hs x hx => ?_).2⟩
  obtain ⟨k, hk, rfl⟩ := List.getElem_of_mem hs
  rw [← nth_get hk, hG.o k (by rw [← hG.ol]; exact hk)] at hx
  have := (List.mem_filter.1 hx).2
  unfold vld at this
  have := of_decide_eq_true this
  have hn := hf.b
  rw [waysF_len] at this
  show wfi x
  unfold wfi
  omega
/-- What may stand in a set, parameters among it. -/
def usP (f : SsaFunc) : List Int := usU f ++ f.fBlocks.xs.flatMap fun b => b.fParams.xs
def pressB (f : SsaFunc) (I O : Nat → Int → Bool) (m : Nat) (q : Nat) : Nat := atS (pressI (usP f) (nth f.fBlocks.xs q)) (nth f.fBlocks.xs q) (O q) (max m (cardU (usP f) (addL (I q) (nth f.fBlocks.xs q).fParams.xs))) 0
def pressF (f : SsaFunc) (I O : Nat → Int → Bool) (o : List Int) : Nat := o.foldl (fun m q => pressB f I O m q.toNat) 0
set_option maxHeartbeats 8000000 in
theorem press15_spec (f : SsaFunc) (hf : OkF f) (hup : (usP f).length ≤ 900000000) : Spec Try.prog 10 [.agg (Enc.enc f).toArray] [] (fun ok w => RdD ok w f) fun r L' => ∃ I O o, FixQ f I O ∧ OrdF f o ∧ r = .int .i64 (pressF f I O o : Nat) ∧ L' = [] := by
  refine spec_of Try.func10 rfl rfl fun w0 f0 hR => ?_
  have hn := hf.b
  have hul := hf.u
  (repeat' (first | refine s_assign ?_ | refine s_nil ?_ | (refine k_C ?_; first | refine s_seq ?_ | refine s_region ?_) | (refine k_E ?_; refine e_seq ?_) | (refine k_load ?_; refine s_ldBW rfl rfl ?_) | (refine s_box _ rfl ?_; intro b)))
  obtain ⟨b1, rfl⟩ : ∃ q, q = b := ⟨_, rfl⟩
  refine s_call0 (of15_spec f hf) rfl (fun w1 H => H.rdD (by infer_instance)) ?_
  rintro r L' ⟨Si, So, mi, mo, I, O, rfl, hQ, hSi, hSo, rfl⟩
  (repeat' (first | refine s_nil ?_ | (refine k_C ?_; first | refine s_seq ?_ | refine s_region ?_) | (refine k_E ?_; refine e_seq ?_) | (refine k_load ?_; refine s_ldBW rfl rfl ?_) | (refine k_store ?_; refine s_stW _ rfl rfl ?_) | (refine s_alloc ?_; intro b)))
  rename_i b3
  obtain ⟨b4, rfl⟩ : ∃ q, q = b := ⟨_, rfl⟩
  refine s_call0 (new15_spec f hf) rfl (fun w1 H => H.rdD (by infer_instance)) ?_
  rintro r L' ⟨gb, g, rfl, hG, rfl⟩
  refine so_sub (L' := [var 78 gb g, own 23 g.fOuts.A g.fOuts.xs.length g.fOuts.c g.fOuts.xs, rws 3 g.fOuts.xs] ++ [var 3 b4 (0 : Int), var 52 b3 (⟨Si, So⟩ : LiveSets), own 58 Si.A Si.xs.length Si.c Si.xs, own 58 So.A So.xs.length So.c So.xs, bagM (usU f).length f.fBlocks.xs.length mi I, bagM (usU f).length f.fBlocks.xs.length mo O, var 38 b1 f]) (PSub.take [0, 0, 0, 3, 3, 3, 3, 3, 3, 3] rfl) ?_
  refine s_call0 (ordF_spec f hf gb g hG) rfl (fun w1 H => graph_rd hf hG H) ?_
  rintro r L' ⟨A, c, o, rfl, ho, rfl⟩
  obtain ⟨hov, hol⟩ := ho.at
  (repeat' (first | refine s_move ?_ | refine s_nil ?_ | (refine k_C ?_; refine s_block ?_) | (refine k_E ?_; refine e_seq ?_) | (refine k_call ?_; refine s_len rfl ?_)))
  refine s_loop (σ := Nat × Nat) (fun z => [(1, .pointer (some ⟨b1, 0, none⟩)), (3, .pointer (some ⟨b3, 0, none⟩)), (4, .pointer (some ⟨b4, 0, none⟩)), (16, .slice A o.length c), (17, .int .i64 o.length), (18, .int .i64 (z.1 : Nat))])
    (fun z => [own 3 A o.length c o, var 3 b4 (z.2 : Int), var 52 b3 (⟨Si, So⟩ : LiveSets), own 58 Si.A Si.xs.length Si.c Si.xs, own 58 So.A So.xs.length So.c So.xs, bagM (usU f).length f.fBlocks.xs.length mi I, bagM (usU f).length f.fBlocks.xs.length mo O, var 38 b1 f])
    (fun z => z.1 ≤ o.length ∧ z.2 = pressF f I O (o.take z.1)) (fun z => o.length - z.1) (0, 0) (by repeat (first | exact trivial | refine ⟨rfl, ?_⟩)) ⟨Nat.zero_le _, rfl⟩ (PSub.take [0, 3, 3, 3, 3, 3, 3, 3] rfl) ?_
  rintro g2 ⟨i, m⟩ ⟨hi, hm⟩
  dsimp only at hi hm ⊢
  (repeat' (first | refine s_nil ?_ | (refine k_C ?_; first | refine s_seq ?_ | refine s_region ?_) | (refine k_E ?_; refine e_seq ?_) | (refine k_bin ?_; refine s_lss rfl rfl ?_)))
  (first | (refine k_C ?_; (refine s_ifd rfl ?_ ?_ <;> intro hc <;> try (exfalso; omega))))
  rotate_left
  · have hiE : i = o.length := by omega
    subst hiE
    rw [List.take_length] at hm
    (repeat' (first | refine s_assign ?_ | refine s_nil ?_ | (refine k_C ?_; first | refine s_seq ?_ | refine s_region ?_ | refine s_exit ?_ | refine s_ret ?_) | (refine k_E ?_; first | refine e_seq ?_ | refine e_seq_exit ?_ | refine e_bk_exit ?_ | refine e_lp_exit ?_) | (refine k_load ?_; refine s_ldB rfl rfl ?_)))
    exact e_done rfl rfl [] (PSub.take [] rfl) ⟨I, O, o, hQ, ho, by rw [← hm]; rfl, rfl⟩
  have hin : i < o.length := by omega
  obtain ⟨hq0, hq1⟩ := hov _ (nth_mem hin)
  have hSl := hSi.1
  have hSl2 := hSo.1
  (repeat' (first | refine s_move ?_ | refine s_assign ?_ | refine s_nil ?_ | (refine k_C ?_; first | refine s_seq ?_ | refine s_region ?_ | refine s_skip ?_ | refine s_block ?_) | (refine k_E ?_; refine e_seq ?_) | (refine k_load ?_; first | refine s_ldB rfl rfl ?_ | refine s_ld rfl om rfl ?_ | refine s_ldSA rfl rfl om rfl ?_) | (refine k_fld ?_; refine s_fldB rfl ?_) | (refine k_idx ?_; first | refine s_idx rfl rfl om ?_ | refine s_idxI rfl rfl om om ?_ | refine s_idxSI rfl rfl om om ?_) | (refine k_store ?_; refine s_stW _ rfl rfl ?_) | (refine s_alloc ?_; intro b) | (refine s_mkmapB ?_; intro b)))
  rename_i b7
  obtain ⟨mm, rfl⟩ : ∃ q, q = b := ⟨_, rfl⟩
  have hqn : (nth o i).toNat < f.fBlocks.xs.length := by omega
  have hpf : pressF f I O (o.take (i + 1)) = pressB f I O m (nth o i).toNat := by rw [hm, ← takeN hin]; unfold pressF; rw [List.foldl_append]; rfl
  rw [hSi.2 _ hqn]
  have hblR : RdD (okOf w0 f0) w0 (nth f.fBlocks.xs (nth o i).toNat) := by infer_instance
  have hblB := hf.k _ hqn
  have hus := hQ.inv.us _ hqn
  have hbu : ∀ k, k ∈ usB (nth f.fBlocks.xs (nth o i).toNat) → k ∈ usU f := fun k h => usB_in hqn h
  have hpu : ∀ k, k ∈ (nth f.fBlocks.xs (nth o i).toNat).fParams.xs → k ∈ usP f := fun k h => List.mem_append_right _ (List.mem_flatMap.2 ⟨_, nth_mem hqn, h⟩)
  unfold pressB at hpf
  generalize hqd : (nth o i).toNat = q at hqn hpf hblR hblB hus hbu hpu ⊢
  generalize hbd : nth f.fBlocks.xs q = bl at hpf hblR hblB hbu hpu ⊢
  refine so_sub (L' := [mp EB 3 (mi q) (usU f).length (setP (I q)), bagX (usU f).length f.fBlocks.xs.length mi I q, mp EB 3 mm 0 (fun _ => none), var 31 b7 bl, own 3 A o.length c o, var 3 b4 (m : Int), var 52 b3 (⟨Si, So⟩ : LiveSets), own 58 Si.A Si.xs.length Si.c Si.xs, own 58 So.A So.xs.length So.c So.xs, bagM (usU f).length f.fBlocks.xs.length mo O, var 38 b1 f]) ?_ ?_
  · exact (PSub.take (L' := [bagM (usU f).length f.fBlocks.xs.length mi I, mp EB 3 mm 0 (fun _ => none), var 31 b7 bl, own 3 A o.length c o, var 3 b4 (m : Int), var 52 b3 (⟨Si, So⟩ : LiveSets), own 58 Si.A Si.xs.length Si.c Si.xs, own 58 So.A So.xs.length So.c So.xs, bagM (usU f).length f.fBlocks.xs.length mo O, var 38 b1 f]) [7, 0, 0, 0, 0, 0, 0, 0, 0, 0] rfl).trans (PSub.bagMout hqn)
  refine so_freeze (mi q) ?_
  intro es clock
  refine s_rangeR rfl ?_
  intro cnt r hcnt
  (repeat' (first | refine s_nil ?_ | (refine k_C ?_; refine s_block ?_) | (refine k_E ?_; refine e_seq ?_)))
  refine s_loop (σ := (Int → Bool) × Nat × Nat) (fun s => [(1, .pointer (some ⟨b1, 0, none⟩)), (3, .pointer (some ⟨b3, 0, none⟩)), (4, .pointer (some ⟨b4, 0, none⟩)), (6, .int .i64 (nth o i)), (7, .pointer (some ⟨b7, 0, none⟩)), (16, .slice A o.length c), (17, .int .i64 o.length), (18, .int .i64 (i : Nat)), (8, .map (some mm)), (33, .pointer (some ⟨r, 0, none⟩))])
    (fun s => [itr Try.prog 3 4 (some (mi q)) r es clock s.1 s.2.1, mp EB 3 mm s.2.2 (setP (goneP (I q) s.1)), mpz EB 3 (mi q) (usU f).length (setP (I q)) es clock, bagX (usU f).length f.fBlocks.xs.length mi I q, var 31 b7 bl, own 3 A o.length c o, var 3 b4 (m : Int), var 52 b3 (⟨Si, So⟩ : LiveSets), own 58 Si.A Si.xs.length Si.c Si.xs, own 58 So.A So.xs.length So.c So.xs, bagM (usU f).length f.fBlocks.xs.length mo O, var 38 b1 f]) (fun s => s.2.2 + s.2.1 ≤ (usU f).length) (fun s => s.2.1) ((fun k => (setP (I q) k).isSome), cnt, 0) (by repeat (first | exact trivial | refine ⟨rfl, ?_⟩)) (by simpa using hcnt) ?_ ?_
  · simp only [← goneP_start]
    exact PSub.take [0, 2, 0, 0, 0, 0, 0, 0, 0, 0, 0, 0] rfl
  rintro g ⟨todo, c1, n1⟩ hJ
  dsimp only at hJ
  (repeat' (first | (refine k_C ?_; first | refine s_seq ?_ | refine s_region ?_)))
  refine s_nextR U_3 rfl (fun hfin => ?_) (fun k x cnt' hk hg ht hF hlt => ?_)
  rotate_left
  · haveI : RdD (okOf w0 f0) w0 k := ⟨hk⟩
    dsimp only at hlt ⊢
    (repeat' (first | refine s_nil ?_ | (refine k_C ?_; first | refine s_seq ?_ | refine s_region ?_ | refine s_skip ?_ | refine s_block ?_ | refine s_ift rfl ?_) | (refine k_E ?_; refine e_seq ?_) | refine s_extract rfl rfl ?_))
    refine s_entryR rfl ?_
    (repeat' (first | refine s_move ?_ | refine s_assign ?_ | refine s_nil ?_ | (refine k_C ?_; refine s_region ?_) | (refine k_E ?_; first | refine e_seq ?_ | refine e_bk ?_) | refine s_putW (yv := true) rfl rfl rfl trivial om ?_ | refine s_extract rfl rfl ?_))
    refine e_lp (fun j => todo j && j != k, cnt', n1 + 1) (by repeat (first | exact trivial | refine ⟨rfl, ?_⟩)) (by show n1 + 1 + cnt' ≤ _; omega) hlt (PSub.eq ?_)
    rw [goneP_step hF]
  dsimp only
  (repeat' (first | refine s_move ?_ | refine s_nil ?_ | (refine k_C ?_; first | refine s_seq ?_ | refine s_region ?_ | refine s_block ?_ | refine s_exit ?_ | refine s_iff rfl ?_) | (refine k_E ?_; first | refine e_seq ?_ | refine e_seq_exit ?_ | refine e_bk_exit ?_ | refine e_lp_exit ?_) | (refine k_load ?_; refine s_ldB rfl rfl ?_) | (refine k_fld ?_; refine s_fldB rfl ?_) | (refine k_call ?_; refine s_len rfl ?_) | refine s_extract rfl rfl ?_))
  rw [goneP_end hfin]
  have hbp := hblB.p
  have hback : ∀ w0 f0, PSub w0 f0 (mp EB 3 (mi q) (usU f).length (setP (I q)) :: bagX (usU f).length f.fBlocks.xs.length mi I q :: [var 31 b7 bl, own 3 A o.length c o, var 3 b4 (m : Int), var 52 b3 (⟨Si, So⟩ : LiveSets), own 58 Si.A Si.xs.length Si.c Si.xs, own 58 So.A So.xs.length So.c So.xs, bagM (usU f).length f.fBlocks.xs.length mo O, var 38 b1 f]) (bagM (usU f).length f.fBlocks.xs.length mi I :: [var 31 b7 bl, own 3 A o.length c o, var 3 b4 (m : Int), var 52 b3 (⟨Si, So⟩ : LiveSets), own 58 Si.A Si.xs.length Si.c Si.xs, own 58 So.A So.xs.length So.c So.xs, bagM (usU f).length f.fBlocks.xs.length mo O, var 38 b1 f]) := fun w0 f0 => by
    have h := PSub.bagMin (w0 := w0) (f0 := f0) (U := (usU f).length) (k := f.fBlocks.xs.length) (mi := mi) (I := I) (b := q) (x := mi q) (p := I q) hqn (L := [var 31 b7 bl, own 3 A o.length c o, var 3 b4 (m : Int), var 52 b3 (⟨Si, So⟩ : LiveSets), own 58 Si.A Si.xs.length Si.c Si.xs, own 58 So.A So.xs.length So.c So.xs, bagM (usU f).length f.fBlocks.xs.length mo O, var 38 b1 f])
    rw [updB_self, updB_self] at h
    exact h
  have hfront : ∀ (X : HP), PSub w0 f0 [X, mpz EB 3 (mi q) (usU f).length (setP (I q)) es clock, bagX (usU f).length f.fBlocks.xs.length mi I q, var 31 b7 bl, own 3 A o.length c o, var 3 b4 (m : Int), var 52 b3 (⟨Si, So⟩ : LiveSets), own 58 Si.A Si.xs.length Si.c Si.xs, own 58 So.A So.xs.length So.c So.xs, bagM (usU f).length f.fBlocks.xs.length mo O, var 38 b1 f] [X, bagM (usU f).length f.fBlocks.xs.length mi I, var 31 b7 bl, own 3 A o.length c o, var 3 b4 (m : Int), var 52 b3 (⟨Si, So⟩ : LiveSets), own 58 Si.A Si.xs.length Si.c Si.xs, own 58 So.A So.xs.length So.c So.xs, bagM (usU f).length f.fBlocks.xs.length mo O, var 38 b1 f] := fun X => PSub.under fun w0 f0 => PSub.thaw.trans (hback w0 f0)
  refine s_loop (σ := Nat) (fun z => [(1, .pointer (some ⟨b1, 0, none⟩)), (3, .pointer (some ⟨b3, 0, none⟩)), (4, .pointer (some ⟨b4, 0, none⟩)), (6, .int .i64 (nth o i)), (7, .pointer (some ⟨b7, 0, none⟩)), (16, .slice A o.length c), (17, .int .i64 o.length), (18, .int .i64 (i : Nat)), (8, .map (some mm)), (41, .slice bl.fParams.A bl.fParams.xs.length bl.fParams.c), (42, .int .i64 bl.fParams.xs.length), (43, .int .i64 (z : Nat))])
    (fun z => [mp EB 3 mm (n1 + z) (setP (addL (I q) (bl.fParams.xs.take z))), bagM (usU f).length f.fBlocks.xs.length mi I, var 31 b7 bl, own 3 A o.length c o, var 3 b4 (m : Int), var 52 b3 (⟨Si, So⟩ : LiveSets), own 58 Si.A Si.xs.length Si.c Si.xs, own 58 So.A So.xs.length So.c So.xs, bagM (usU f).length f.fBlocks.xs.length mo O, var 38 b1 f]) (fun i => i ≤ bl.fParams.xs.length) (fun i => bl.fParams.xs.length - i) 0 (by repeat (first | exact trivial | refine ⟨rfl, ?_⟩)) (Nat.zero_le _) ?_ ?_
  · simp only [List.take_zero, addL_nil, Nat.add_zero]
    exact hfront _
  rintro g i2 hi2
  (repeat' (first | refine s_nil ?_ | (refine k_C ?_; first | refine s_seq ?_ | refine s_region ?_) | (refine k_E ?_; refine e_seq ?_) | (refine k_bin ?_; refine s_lss rfl rfl ?_)))
  (first | (refine k_C ?_; (refine s_ifd rfl ?_ ?_ <;> intro hc <;> try (exfalso; omega))))
  · have hin2 : i2 < bl.fParams.xs.length := by omega
    (repeat' (first | refine s_move ?_ | refine s_assign ?_ | refine s_nil ?_ | (refine k_C ?_; first | refine s_seq ?_ | refine s_region ?_ | refine s_skip ?_ | refine s_block ?_) | (refine k_E ?_; first | refine e_seq ?_ | refine e_bk ?_) | (refine k_load ?_; refine s_ldS rfl rfl om rfl ?_) | (refine k_bin ?_; refine s_add1 rfl rfl om ?_) | (refine k_idx ?_; refine s_idxS rfl rfl om ?_) | refine s_putW (yv := true) rfl rfl rfl trivial om ?_))
    refine e_lp (i2 + 1) (by repeat (first | exact trivial | refine ⟨rfl, ?_⟩)) (by show i2 + 1 ≤ _; omega) (by show _ - _ < _ - _; omega) (PSub.eq ?_)
    rw [setP_put, addL_put, takeN hin2]; rfl
  have hi2E : i2 = bl.fParams.xs.length := by omega
  subst hi2E
  rw [List.take_length]
  (repeat' (first | refine s_move ?_ | (refine k_C ?_; first | refine s_seq ?_ | refine s_region ?_ | refine s_exit ?_) | (refine k_E ?_; first | refine e_seq ?_ | refine e_seq_exit ?_ | refine e_bk_exit ?_ | refine e_lp_exit ?_) | (refine k_load ?_; refine s_ldB rfl rfl ?_)))
  refine s_lenC rfl ?_
  intro ks hk1 hk2
  have hcard := cardU_of (us := usP f) hk1 hk2 (fun k hk => by
    unfold addL at hk
    rw [Bool.or_eq_true, decide_eq_true_eq] at hk
    rcases hk with hk | hk
    · exact List.mem_append_left _ ((hus k).1 hk)
    · exact hpu k hk)
  (repeat' (first | refine s_nil ?_ | (refine k_E ?_; refine e_seq ?_) | (refine k_store ?_; refine s_stW _ rfl rfl ?_) | (refine k_call ?_; refine s_max rfl rfl ?_)))
  have em : (max (m : Int) (ks.length : Int)) = ((max m ks.length : Nat) : Int) := by omega
  rw [em, hcard]
  generalize hm' : max m (cardU (usP f) (addL (I q) bl.fParams.xs)) = m' at hpf ⊢
  refine s_tail (F := ?F18) 7 [0, 1, 2, 3, 4, 5, 6] foI (by kernel_rfl) ?hr18 ?hn18
  case hr18 =>
    change sO _ _ _ _ _ _ (_ :: _ :: _ :: _ :: _ :: _ :: _ :: []) _ _ _
    (repeat' (first | refine s_move ?_ | (refine k_load ?_; first | refine s_ldB rfl rfl ?_ | refine s_ldBW rfl rfl ?_ | refine s_ld rfl om rfl ?_) | (refine k_fld ?_; refine s_fldB rfl ?_) | (refine k_idx ?_; refine s_idxI rfl rfl om om ?_)))
    refine s_func (v1 := []) (v2 := [.pointer _, .pointer _]) rfl rfl ?_
    (repeat' (first | refine s_nil ?_))
    exact e_F
  change sO _ _ _ _ _ _ (_ :: []) _ _ _
  rw [hqd, hSo.2 _ hqn]
  refine so_sub (L' := [pressP b7 b4 bl m', own 3 A o.length c o, var 52 b3 (⟨Si, So⟩ : LiveSets), own 58 Si.A Si.xs.length Si.c Si.xs, own 58 So.A So.xs.length So.c So.xs, bagM (usU f).length f.fBlocks.xs.length mi I, bagM (usU f).length f.fBlocks.xs.length mo O, var 38 b1 f]) ((PSub.take (L' := [var 31 b7 bl, var 3 b4 (m' : Int), own 3 A o.length c o, var 52 b3 (⟨Si, So⟩ : LiveSets), own 58 Si.A Si.xs.length Si.c Si.xs, own 58 So.A So.xs.length So.c So.xs, bagM (usU f).length f.fBlocks.xs.length mi I, bagM (usU f).length f.fBlocks.xs.length mo O, var 38 b1 f]) [2, 3, 2, 2, 2, 2, 1, 1, 1] rfl).trans PSub.mk2) ?_
  refine s_call (L2 := [own 3 A o.length c o, var 52 b3 (⟨Si, So⟩ : LiveSets), own 58 Si.A Si.xs.length Si.c Si.xs, own 58 So.A So.xs.length So.c So.xs, bagM (usU f).length f.fBlocks.xs.length mi I, bagM (usU f).length f.fBlocks.xs.length mo O, var 38 b1 f]) [0] (backF_spec bl hblB (some (mo q)) (usU f).length (O q) (by omega) (fun m => pressP b7 b4 bl m) (pressI (usP f) bl) m' 21 [.pointer (some ⟨b7, 0, none⟩), .pointer (some ⟨b4, 0, none⟩)] (fun ok w => RdD ok w bl) (Lasts.d bl) (fun k q' n' hk hn' => press1_spec (usP f) bl hblB b7 b4 _ k q' n' _ hk (fun j hj => by
      rcases liveB_in hj with h1 | h1
      · exact List.mem_append_left _ ((hus j).2 h1)
      · exact List.mem_append_left _ (hbu j h1)) (by omega))) rfl rfl (fun w1 f1 C => ⟨C.rd hblR, C.bagRd 5 rfl hqn, C.rd hblR⟩) ?_
  rintro r' L' ⟨m2, N2, rfl, hN2, rfl⟩
  (repeat' (first | refine s_move ?_ | refine s_nil ?_ | (refine k_C ?_; refine s_region ?_) | (refine k_E ?_; first | refine e_seq ?_ | refine e_bk ?_) | (refine k_bin ?_; refine s_add1 rfl rfl om ?_)))
  refine e_lp (i + 1, atS (pressI (usP f) bl) bl (O q) m' 0) (by repeat (first | exact trivial | refine ⟨rfl, ?_⟩)) ⟨by show i + 1 ≤ _; omega, hpf.symm⟩ (by show _ - _ < _ - _; omega) ?_
  exact (PSub.take (L' := [pressP b7 b4 bl (atS (pressI (usP f) bl) bl (O q) m' 0), own 3 A o.length c o, var 52 b3 (⟨Si, So⟩ : LiveSets), own 58 Si.A Si.xs.length Si.c Si.xs, own 58 So.A So.xs.length So.c So.xs, bagM (usU f).length f.fBlocks.xs.length mi I, bagM (usU f).length f.fBlocks.xs.length mo O, var 38 b1 f]) [1, 1, 1, 1, 1, 1, 1, 1] rfl).trans (PSub.un2.trans (PSub.take [2, 1, 1, 1, 1, 1, 1, 1] rfl))
end Go.Proofs.Ytfplmdjlgjgbgaa
