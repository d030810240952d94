/- Layer 11, of a function: New. -/
import Derived.Test.YtfplmdjlgjgbgaaV5
import Derived.Test.YtfplmdjlgjgbgaaS7
import Derived.Test.YtfplmdjlgjgbgaaG10
namespace Go.Proofs.Ytfplmdjlgjgbgaa
set_option linter.unusedVariables false
set_option linter.unusedSimpArgs false
open Go Go.RowKit

/-- Where the ways of a function go. -/
def waysF (f : SsaFunc) : List (List Int) := f.fBlocks.xs.map fun b => b.fEnd.fWays.xs.map (·.fTo)
theorem waysF_len {f : SsaFunc} : (waysF f).length = f.fBlocks.xs.length := List.length_map _
theorem waysF_at {f : SsaFunc} {b : Nat} (hb : b < f.fBlocks.xs.length) : (waysF f)[b]? = some ((nth f.fBlocks.xs b).fEnd.fWays.xs.map (·.fTo)) := by
  unfold waysF; rw [List.getElem?_map, nth_some hb]; rfl
structure GraphOk (f : SsaFunc) (G : FlowGraph) : Prop where
  ol : G.fOuts.xs.length = f.fBlocks.xs.length
  il : G.fIns.xs.length = f.fBlocks.xs.length
  o : ∀ k, k < f.fBlocks.xs.length → (nth G.fOuts.xs k).xs = outsOf (waysF f) k
  i : ∀ k, k < f.fBlocks.xs.length → (nth G.fIns.xs k).xs = insOf (waysF f) k
  r : G.fReach.xs = reachB7 f
noncomputable def graphP (g : Nat) (G : FlowGraph) : List HP := [var 78 g G, own 23 G.fOuts.A G.fOuts.xs.length G.fOuts.c G.fOuts.xs, rws 3 G.fOuts.xs, own 23 G.fIns.A G.fIns.xs.length G.fIns.c G.fIns.xs, rws 3 G.fIns.xs, own 4 G.fReach.A G.fReach.xs.length G.fReach.c G.fReach.xs]
theorem OkF.fewF {f : SsaFunc} (h : OkF f) : FewF f := by
  have hd : ∀ i, (nth f.fBlocks.xs i).fParams.xs.length ≤ 1000 ∧ (nth f.fBlocks.xs i).fIns.xs.length ≤ 1000 ∧ (nth f.fBlocks.xs i).fEnd.fWays.xs.length ≤ 1000 := fun i => by
    by_cases hi : i < f.fBlocks.xs.length
    · have := h.k i hi; exact ⟨this.p, this.i, this.w⟩
    · rw [nth_out (by omega)]; exact ⟨Nat.zero_le _, Nat.zero_le _, Nat.zero_le _⟩
  exact ⟨h.b, fun i => (hd i).1, fun i => (hd i).2.1, fun i => (hd i).2.2⟩
theorem goW7_len {n : Nat} : ∀ {ws : List SsaEdge} {out : List Bool} {todo : List Int}, (goW7 n ws out todo).1.length = out.length
  | [], out, todo => rfl
  | w :: ws, out, todo => by
    unfold goW7
    split
    · rw [goW7_len, List.length_set]
    · exact goW7_len
theorem reachL7_len {f : SsaFunc} : ∀ {k : Nat} {out : List Bool} {todo : List Int}, (reachL7 f k out todo).length = out.length
  | 0, out, todo => by unfold reachL7; rfl
  | k + 1, out, [] => by unfold reachL7; rfl
  | k + 1, out, t :: todo => by unfold reachL7; dsimp only; rw [reachL7_len, goW7_len]
theorem reachB7_len {f : SsaFunc} : (reachB7 f).length = f.fBlocks.xs.length := by
  unfold reachB7
  split
  · rename_i h; rw [h]; rfl
  · rw [reachL7_len, List.length_set, List.length_replicate]
structure HdO (f : SsaFunc) (ho : List (Sl Int)) (b j : Nat) : Prop where
  l : ho.length = f.fBlocks.xs.length
  x : ∀ k, k < f.fBlocks.xs.length → (nth ho k).xs = oPre (waysF f) b j k
structure HdI (f : SsaFunc) (hi : List (Sl Int)) (b j : Nat) : Prop where
  l : hi.length = f.fBlocks.xs.length
  x : ∀ k, k < f.fBlocks.xs.length → (nth hi k).xs = iPre (waysF f) b j k
section
variable {f : SsaFunc} {h : List (Sl Int)} {b j : Nat} {l : List Int} {t : Int}
theorem HdO.row (H : HdO f h b j) (hl : (waysF f)[b]? = some l) (hj : l.length ≤ j) : HdO f h (b + 1) 0 := ⟨H.l, fun k hk => by rw [H.x k hk, oPre_row hl hj]⟩
theorem HdI.row (H : HdI f h b j) (hl : (waysF f)[b]? = some l) (hj : l.length ≤ j) : HdI f h (b + 1) 0 := ⟨H.l, fun k hk => by rw [H.x k hk, iPre_row hl hj]⟩
theorem HdO.no (H : HdO f h b j) (hl : (waysF f)[b]? = some l) (ht : l[j]? = some t) (hv : vld (waysF f).length t = false) : HdO f h b (j + 1) := ⟨H.l, fun k hk => by rw [H.x k hk, oPre_no hl ht hv]⟩
theorem HdI.no (H : HdI f h b j) (hl : (waysF f)[b]? = some l) (ht : l[j]? = some t) (hv : vld (waysF f).length t = false) : HdI f h b (j + 1) := ⟨H.l, fun k hk => by rw [H.x k hk, iPre_no hl ht (by rw [waysF_len]; exact hk) hv]⟩
theorem HdO.ok (H : HdO f h b j) (hb : b < f.fBlocks.xs.length) (hl : (waysF f)[b]? = some l) (ht : l[j]? = some t) (hv : vld (waysF f).length t = true) (A : Option Addr) (c : Nat) : HdO f (h.set b ⟨A, c, (nth h b).xs ++ [t]⟩) b (j + 1) := ⟨by rw [List.length_set]; exact H.l, fun k hk => by
  rw [nth_set (by rw [H.l]; exact hb), oPre_ok hl ht hv]
  by_cases e : k = b
  · subst e; rw [if_pos rfl, if_pos rfl, H.x k hk]
  · rw [if_neg e, if_neg e, H.x k hk]⟩
theorem HdI.ok (H : HdI f h b j) (hl : (waysF f)[b]? = some l) (ht : l[j]? = some t) (h0 : 0 ≤ t) (h1 : t < f.fBlocks.xs.length) (A : Option Addr) (c : Nat) : HdI f (h.set t.toNat ⟨A, c, (nth h t.toNat).xs ++ [(b : Int)]⟩) b (j + 1) := ⟨by rw [List.length_set]; exact H.l, fun k hk => by
  rw [nth_set (by rw [H.l]; omega), iPre_ok hl ht]
  by_cases e : k = t.toNat
  · subst e; rw [if_pos rfl, if_pos (by omega), H.x _ hk]
  · rw [if_neg e, if_neg (by omega), H.x k hk]⟩
end
set_option maxHeartbeats 8000000 in
theorem new15_spec (f : SsaFunc) (hf : OkF f) : Spec Try.prog 17 [.agg (Enc.enc f).toArray] [] (fun ok w => RdD ok w f) fun r L' => ∃ g G, r = .pointer (some ⟨g, 0, none⟩) ∧ GraphOk f G ∧ L' = graphP g G := by
  refine spec_of Try.func17 rfl rfl fun w0 f0 hR => ?_
  have hfF := hf.fewF
  have hn := hf.b
  (repeat' (first | refine s_assign ?_ | refine s_nil ?_ | (refine k_C ?_; first | refine s_seq ?_ | refine s_region ?_) | (refine k_E ?_; refine e_seq ?_) | (refine k_load ?_; refine s_ldB rfl rfl ?_) | (refine k_fld ?_; refine s_fldB rfl ?_) | (refine k_call ?_; refine s_len rfl ?_) | (refine s_box _ rfl ?_; intro b)))
  obtain ⟨b1, rfl⟩ : ∃ q, q = b := ⟨_, rfl⟩
  refine s_cutI (σ := Nat × Nat × Option Addr × Nat × Nat) (fun q => [(1, .pointer (some ⟨b1, 0, none⟩)), (3, .int .i64 f.fBlocks.xs.length), (4, .pointer (some ⟨q.2.2.2.2, 0, none⟩))])
    (fun q => [var 78 q.2.2.2.2 (⟨⟨some ⟨q.1, 0, none⟩, f.fBlocks.xs.length, (List.replicate f.fBlocks.xs.length (Enc.dflt : Sl Int))⟩, ⟨some ⟨q.2.1, 0, none⟩, f.fBlocks.xs.length, (List.replicate f.fBlocks.xs.length (Enc.dflt : Sl Int))⟩, ⟨q.2.2.1, q.2.2.2.1, (List.replicate f.fBlocks.xs.length (Enc.dflt : Bool))⟩⟩ : FlowGraph), own 23 (some ⟨q.1, 0, none⟩) f.fBlocks.xs.length f.fBlocks.xs.length (List.replicate f.fBlocks.xs.length (Enc.dflt : Sl Int)), own 23 (some ⟨q.2.1, 0, none⟩) f.fBlocks.xs.length f.fBlocks.xs.length (List.replicate f.fBlocks.xs.length (Enc.dflt : Sl Int)), own 4 q.2.2.1 f.fBlocks.xs.length q.2.2.2.1 (reachB7 f), var 38 b1 f]) (fun _ => True) ?_ ?_
  · refine s_draw [var 38 b1 f] 6 foI (by kernel_rfl) (PSub.take [0] rfl) fun hD => ?_
    refine d_rd (fuel := 6) #[true, false, true, false, true, false, false, false, false] [0, 2, 4] ?F2_1 hD (by kernel_rfl) ?hr2_1 ?hn2_1
    case hr2_1 =>
      change sO _ _ _ _ _ _ (_ :: _ :: _ :: []) _ _ _
      (repeat' (first | refine s_move ?_ | refine s_nil ?_ | (refine k_load ?_; refine s_ldBW rfl rfl ?_)))
      exact e_F
    refine d_all (fuel := 5) [1, 3, 5] (by kernel_rfl) ⟨?_, ?_, ?_, trivial⟩
    · change sO _ _ _ _ _ _ (_ :: []) _ _ _
      (repeat' (first | refine s_nil ?_ | (refine s_make rfl rfl om ?_; intro b)))
      rename Nat => p1
      refine e_sd (PSub.take [1] rfl) ?_
      refine d_all (fuel := 4) [3, 5] (by kernel_rfl) ⟨?_, ?_, trivial⟩
      · change sO _ _ _ _ _ _ (_ :: []) _ _ _
        (repeat' (first | refine s_nil ?_ | (refine s_make rfl rfl om ?_; intro b)))
        rename Nat => p3
        refine e_sd (PSub.take [2] rfl) ?_
        refine d_all (fuel := 3) [5] (by kernel_rfl) ⟨?_, trivial⟩
        change sO _ _ _ _ _ _ (_ :: []) _ _ _
        skip
        refine s_call0 (reach7_spec f hfF) rfl (fun w1 H => H.rdD (by infer_instance)) ?_
        rintro r5 L5 ⟨p5, c5, rfl, rfl⟩
        (repeat' (first | refine s_nil ?_))
        refine e_sd (PSub.take [3] rfl) ?_
        refine d_end hD (by kernel_rfl) rfl ?_
        change sO _ _ _ _ _ _ (_ :: _ :: _ :: []) _ _ _
        skip
        refine s_bld (⟨⟨some ⟨p1, 0, none⟩, f.fBlocks.xs.length, (List.replicate f.fBlocks.xs.length (Enc.dflt : Sl Int))⟩, ⟨some ⟨p3, 0, none⟩, f.fBlocks.xs.length, (List.replicate f.fBlocks.xs.length (Enc.dflt : Sl Int))⟩, ⟨p5, c5, (List.replicate f.fBlocks.xs.length (Enc.dflt : Bool))⟩⟩ : FlowGraph) (by show _ = some [Value.slice _ (List.replicate _ _).length _, Value.slice _ (List.replicate _ _).length _, Value.slice _ (List.replicate _ _).length _].toArray; rw [List.length_replicate, List.length_replicate]; kernel_rfl) ?_
        (repeat' (first | refine s_assign ?_ | refine s_nil ?_ | (refine s_box _ rfl ?_; intro b)))
        rename Nat => p7
        exact e_ct (p1, p3, p5, c5, p7) (by repeat (first | exact trivial | refine ⟨rfl, ?_⟩)) trivial (PSub.take (0 :: [2, 1, 0, 0]) rfl)
      · change sO _ _ _ _ _ _ (_ :: []) _ _ _
        skip
        refine s_call0 (reach7_spec f hfF) rfl (fun w1 H => H.rdD (by infer_instance)) ?_
        rintro r5 L5 ⟨p5, c5, rfl, rfl⟩
        (repeat' (first | refine s_nil ?_))
        refine e_sd (PSub.take [2] rfl) ?_
        refine d_all (fuel := 3) [3] (by kernel_rfl) ⟨?_, trivial⟩
        change sO _ _ _ _ _ _ (_ :: []) _ _ _
        (repeat' (first | refine s_nil ?_ | (refine s_make rfl rfl om ?_; intro b)))
        rename Nat => p3
        refine e_sd (PSub.take [3] rfl) ?_
        refine d_end hD (by kernel_rfl) rfl ?_
        change sO _ _ _ _ _ _ (_ :: _ :: _ :: []) _ _ _
        skip
        refine s_bld (⟨⟨some ⟨p1, 0, none⟩, f.fBlocks.xs.length, (List.replicate f.fBlocks.xs.length (Enc.dflt : Sl Int))⟩, ⟨some ⟨p3, 0, none⟩, f.fBlocks.xs.length, (List.replicate f.fBlocks.xs.length (Enc.dflt : Sl Int))⟩, ⟨p5, c5, (List.replicate f.fBlocks.xs.length (Enc.dflt : Bool))⟩⟩ : FlowGraph) (by show _ = some [Value.slice _ (List.replicate _ _).length _, Value.slice _ (List.replicate _ _).length _, Value.slice _ (List.replicate _ _).length _].toArray; rw [List.length_replicate, List.length_replicate]; kernel_rfl) ?_
        (repeat' (first | refine s_assign ?_ | refine s_nil ?_ | (refine s_box _ rfl ?_; intro b)))
        rename Nat => p7
        exact e_ct (p1, p3, p5, c5, p7) (by repeat (first | exact trivial | refine ⟨rfl, ?_⟩)) trivial (PSub.take (0 :: [2, 0, 0, 0]) rfl)
    · change sO _ _ _ _ _ _ (_ :: []) _ _ _
      (repeat' (first | refine s_nil ?_ | (refine s_make rfl rfl om ?_; intro b)))
      rename Nat => p3
      refine e_sd (PSub.take [1] rfl) ?_
      refine d_all (fuel := 4) [1, 5] (by kernel_rfl) ⟨?_, ?_, trivial⟩
      · change sO _ _ _ _ _ _ (_ :: []) _ _ _
        (repeat' (first | refine s_nil ?_ | (refine s_make rfl rfl om ?_; intro b)))
        rename Nat => p1
        refine e_sd (PSub.take [2] rfl) ?_
        refine d_all (fuel := 3) [5] (by kernel_rfl) ⟨?_, trivial⟩
        change sO _ _ _ _ _ _ (_ :: []) _ _ _
        skip
        refine s_call0 (reach7_spec f hfF) rfl (fun w1 H => H.rdD (by infer_instance)) ?_
        rintro r5 L5 ⟨p5, c5, rfl, rfl⟩
        (repeat' (first | refine s_nil ?_))
        refine e_sd (PSub.take [3] rfl) ?_
        refine d_end hD (by kernel_rfl) rfl ?_
        change sO _ _ _ _ _ _ (_ :: _ :: _ :: []) _ _ _
        skip
        refine s_bld (⟨⟨some ⟨p1, 0, none⟩, f.fBlocks.xs.length, (List.replicate f.fBlocks.xs.length (Enc.dflt : Sl Int))⟩, ⟨some ⟨p3, 0, none⟩, f.fBlocks.xs.length, (List.replicate f.fBlocks.xs.length (Enc.dflt : Sl Int))⟩, ⟨p5, c5, (List.replicate f.fBlocks.xs.length (Enc.dflt : Bool))⟩⟩ : FlowGraph) (by show _ = some [Value.slice _ (List.replicate _ _).length _, Value.slice _ (List.replicate _ _).length _, Value.slice _ (List.replicate _ _).length _].toArray; rw [List.length_replicate, List.length_replicate]; kernel_rfl) ?_
        (repeat' (first | refine s_assign ?_ | refine s_nil ?_ | (refine s_box _ rfl ?_; intro b)))
        rename Nat => p7
        exact e_ct (p1, p3, p5, c5, p7) (by repeat (first | exact trivial | refine ⟨rfl, ?_⟩)) trivial (PSub.take (0 :: [1, 1, 0, 0]) rfl)
      · change sO _ _ _ _ _ _ (_ :: []) _ _ _
        skip
        refine s_call0 (reach7_spec f hfF) rfl (fun w1 H => H.rdD (by infer_instance)) ?_
        rintro r5 L5 ⟨p5, c5, rfl, rfl⟩
        (repeat' (first | refine s_nil ?_))
        refine e_sd (PSub.take [2] rfl) ?_
        refine d_all (fuel := 3) [1] (by kernel_rfl) ⟨?_, trivial⟩
        change sO _ _ _ _ _ _ (_ :: []) _ _ _
        (repeat' (first | refine s_nil ?_ | (refine s_make rfl rfl om ?_; intro b)))
        rename Nat => p1
        refine e_sd (PSub.take [3] rfl) ?_
        refine d_end hD (by kernel_rfl) rfl ?_
        change sO _ _ _ _ _ _ (_ :: _ :: _ :: []) _ _ _
        skip
        refine s_bld (⟨⟨some ⟨p1, 0, none⟩, f.fBlocks.xs.length, (List.replicate f.fBlocks.xs.length (Enc.dflt : Sl Int))⟩, ⟨some ⟨p3, 0, none⟩, f.fBlocks.xs.length, (List.replicate f.fBlocks.xs.length (Enc.dflt : Sl Int))⟩, ⟨p5, c5, (List.replicate f.fBlocks.xs.length (Enc.dflt : Bool))⟩⟩ : FlowGraph) (by show _ = some [Value.slice _ (List.replicate _ _).length _, Value.slice _ (List.replicate _ _).length _, Value.slice _ (List.replicate _ _).length _].toArray; rw [List.length_replicate, List.length_replicate]; kernel_rfl) ?_
        (repeat' (first | refine s_assign ?_ | refine s_nil ?_ | (refine s_box _ rfl ?_; intro b)))
        rename Nat => p7
        exact e_ct (p1, p3, p5, c5, p7) (by repeat (first | exact trivial | refine ⟨rfl, ?_⟩)) trivial (PSub.take (0 :: [0, 1, 0, 0]) rfl)
    · change sO _ _ _ _ _ _ (_ :: []) _ _ _
      skip
      refine s_call0 (reach7_spec f hfF) rfl (fun w1 H => H.rdD (by infer_instance)) ?_
      rintro r5 L5 ⟨p5, c5, rfl, rfl⟩
      (repeat' (first | refine s_nil ?_))
      refine e_sd (PSub.take [1] rfl) ?_
      refine d_all (fuel := 4) [1, 3] (by kernel_rfl) ⟨?_, ?_, trivial⟩
      · change sO _ _ _ _ _ _ (_ :: []) _ _ _
        (repeat' (first | refine s_nil ?_ | (refine s_make rfl rfl om ?_; intro b)))
        rename Nat => p1
        refine e_sd (PSub.take [2] rfl) ?_
        refine d_all (fuel := 3) [3] (by kernel_rfl) ⟨?_, trivial⟩
        change sO _ _ _ _ _ _ (_ :: []) _ _ _
        (repeat' (first | refine s_nil ?_ | (refine s_make rfl rfl om ?_; intro b)))
        rename Nat => p3
        refine e_sd (PSub.take [3] rfl) ?_
        refine d_end hD (by kernel_rfl) rfl ?_
        change sO _ _ _ _ _ _ (_ :: _ :: _ :: []) _ _ _
        skip
        refine s_bld (⟨⟨some ⟨p1, 0, none⟩, f.fBlocks.xs.length, (List.replicate f.fBlocks.xs.length (Enc.dflt : Sl Int))⟩, ⟨some ⟨p3, 0, none⟩, f.fBlocks.xs.length, (List.replicate f.fBlocks.xs.length (Enc.dflt : Sl Int))⟩, ⟨p5, c5, (List.replicate f.fBlocks.xs.length (Enc.dflt : Bool))⟩⟩ : FlowGraph) (by show _ = some [Value.slice _ (List.replicate _ _).length _, Value.slice _ (List.replicate _ _).length _, Value.slice _ (List.replicate _ _).length _].toArray; rw [List.length_replicate, List.length_replicate]; kernel_rfl) ?_
        (repeat' (first | refine s_assign ?_ | refine s_nil ?_ | (refine s_box _ rfl ?_; intro b)))
        rename Nat => p7
        exact e_ct (p1, p3, p5, c5, p7) (by repeat (first | exact trivial | refine ⟨rfl, ?_⟩)) trivial (PSub.take (0 :: [1, 0, 0, 0]) rfl)
      · change sO _ _ _ _ _ _ (_ :: []) _ _ _
        (repeat' (first | refine s_nil ?_ | (refine s_make rfl rfl om ?_; intro b)))
        rename Nat => p3
        refine e_sd (PSub.take [2] rfl) ?_
        refine d_all (fuel := 3) [1] (by kernel_rfl) ⟨?_, trivial⟩
        change sO _ _ _ _ _ _ (_ :: []) _ _ _
        (repeat' (first | refine s_nil ?_ | (refine s_make rfl rfl om ?_; intro b)))
        rename Nat => p1
        refine e_sd (PSub.take [3] rfl) ?_
        refine d_end hD (by kernel_rfl) rfl ?_
        change sO _ _ _ _ _ _ (_ :: _ :: _ :: []) _ _ _
        skip
        refine s_bld (⟨⟨some ⟨p1, 0, none⟩, f.fBlocks.xs.length, (List.replicate f.fBlocks.xs.length (Enc.dflt : Sl Int))⟩, ⟨some ⟨p3, 0, none⟩, f.fBlocks.xs.length, (List.replicate f.fBlocks.xs.length (Enc.dflt : Sl Int))⟩, ⟨p5, c5, (List.replicate f.fBlocks.xs.length (Enc.dflt : Bool))⟩⟩ : FlowGraph) (by show _ = some [Value.slice _ (List.replicate _ _).length _, Value.slice _ (List.replicate _ _).length _, Value.slice _ (List.replicate _ _).length _].toArray; rw [List.length_replicate, List.length_replicate]; kernel_rfl) ?_
        (repeat' (first | refine s_assign ?_ | refine s_nil ?_ | (refine s_box _ rfl ?_; intro b)))
        rename Nat => p7
        exact e_ct (p1, p3, p5, c5, p7) (by repeat (first | exact trivial | refine ⟨rfl, ?_⟩)) trivial (PSub.take (0 :: [0, 0, 0, 0]) rfl)
  rintro f1 ⟨p1, p3, p5, c5, g⟩ _
  dsimp only
  (repeat' (first | refine s_move ?_ | refine s_nil ?_ | (refine k_C ?_; first | refine s_seq ?_ | refine s_region ?_ | refine s_block ?_) | (refine k_E ?_; refine e_seq ?_) | (refine k_load ?_; refine s_ldB rfl rfl ?_) | (refine k_fld ?_; refine s_fldB rfl ?_) | (refine k_call ?_; refine s_len rfl ?_)))
  have hwl : ∀ l ∈ waysF f, l.length ≤ 1000 := fun l hl => by
    obtain ⟨b, hb, rfl⟩ := List.mem_map.1 hl
    obtain ⟨k, hk, rfl⟩ := List.getElem_of_mem hb
    rw [List.length_map, ← nth_get hk]
    exact (hf.k k hk).w
  have hWl := waysF_len (f := f)
  refine s_loop (σ := Nat × List (Sl Int) × List (Sl Int)) (fun q => [(1, .pointer (some ⟨b1, 0, none⟩)), (3, .int .i64 f.fBlocks.xs.length), (4, .pointer (some ⟨g, 0, none⟩)), (21, .slice f.fBlocks.A f.fBlocks.xs.length f.fBlocks.c), (22, .int .i64 f.fBlocks.xs.length), (23, .int .i64 (q.1 : Nat))])
    (fun q => [rws 3 q.2.1, rws 3 q.2.2, own 23 (some ⟨p1, 0, none⟩) ((List.replicate f.fBlocks.xs.length (Enc.dflt : Sl Int))).length f.fBlocks.xs.length q.2.1, own 23 (some ⟨p3, 0, none⟩) ((List.replicate f.fBlocks.xs.length (Enc.dflt : Sl Int))).length f.fBlocks.xs.length q.2.2, own 4 p5 f.fBlocks.xs.length c5 (reachB7 f), var 78 g (⟨⟨some ⟨p1, 0, none⟩, f.fBlocks.xs.length, (List.replicate f.fBlocks.xs.length (Enc.dflt : Sl Int))⟩, ⟨some ⟨p3, 0, none⟩, f.fBlocks.xs.length, (List.replicate f.fBlocks.xs.length (Enc.dflt : Sl Int))⟩, ⟨p5, c5, (List.replicate f.fBlocks.xs.length (Enc.dflt : Bool))⟩⟩ : FlowGraph), var 38 b1 f])
    (fun q => q.1 ≤ f.fBlocks.xs.length ∧ HdO f q.2.1 q.1 0 ∧ HdI f q.2.2 q.1 0) (fun q => f.fBlocks.xs.length - q.1) (0, (List.replicate f.fBlocks.xs.length (Enc.dflt : Sl Int)), (List.replicate f.fBlocks.xs.length (Enc.dflt : Sl Int))) (by repeat (first | exact trivial | refine ⟨rfl, ?_⟩)) ⟨Nat.zero_le _, ⟨List.length_replicate, fun k hk => by rw [oPre_0]; exact congrArg Sl.xs nth_rep⟩, ⟨List.length_replicate, fun k hk => by rw [iPre_0]; exact congrArg Sl.xs nth_rep⟩⟩
    ((PSub.nilsRws 3 f.fBlocks.xs.length).trans ((PSub.nilsRws 3 f.fBlocks.xs.length).trans ((PSub.take [0, 0, 1, 1, 1, 0, 0] rfl).trans (PSub.eq (by simp only [List.length_replicate]; rfl))))) ?_
  rintro g2 ⟨b, ho, hi⟩ ⟨hb, hHo, hHi⟩
  dsimp only at hb hHo hHi ⊢
  (repeat' (first | refine s_nil ?_ | (refine k_C ?_; first | refine s_seq ?_ | refine s_region ?_) | (refine k_E ?_; refine e_seq ?_) | (refine k_bin ?_; refine s_lss rfl rfl ?_)))
  (first | (refine k_C ?_; (refine s_ifd rfl ?_ ?_ <;> intro hc <;> try (exfalso; omega))))
  rotate_left
  · have hbE : b = f.fBlocks.xs.length := by omega
    subst hbE
    (repeat' (first | refine s_move ?_ | refine s_assign ?_ | refine s_nil ?_ | (refine k_C ?_; first | refine s_seq ?_ | refine s_region ?_ | refine s_exit ?_ | refine s_ret ?_) | (refine k_E ?_; first | refine e_seq ?_ | refine e_seq_exit ?_ | refine e_bk_exit ?_ | refine e_lp_exit ?_)))
    have ho1 := hHo.l
    have hi1 := hHi.l
    refine e_done rfl rfl (graphP g (⟨⟨some ⟨p1, 0, none⟩, f.fBlocks.xs.length, ho⟩, ⟨some ⟨p3, 0, none⟩, f.fBlocks.xs.length, hi⟩, ⟨p5, c5, reachB7 f⟩⟩ : FlowGraph)) ?_ ⟨g, (⟨⟨some ⟨p1, 0, none⟩, f.fBlocks.xs.length, ho⟩, ⟨some ⟨p3, 0, none⟩, f.fBlocks.xs.length, hi⟩, ⟨p5, c5, reachB7 f⟩⟩ : FlowGraph), rfl, ⟨ho1, hi1, fun k hk => by
        have := hHo.x k hk
        rw [← hWl, oPre_end (by rw [hWl]; exact hk)] at this
        exact this, fun k hk => by
        have := hHi.x k hk
        rw [← hWl, iPre_end] at this
        exact this, rfl⟩, rfl⟩
    have eV : var 78 g (⟨⟨some ⟨p1, 0, none⟩, f.fBlocks.xs.length, (List.replicate f.fBlocks.xs.length (Enc.dflt : Sl Int))⟩, ⟨some ⟨p3, 0, none⟩, f.fBlocks.xs.length, (List.replicate f.fBlocks.xs.length (Enc.dflt : Sl Int))⟩, ⟨p5, c5, (List.replicate f.fBlocks.xs.length (Enc.dflt : Bool))⟩⟩ : FlowGraph) = var 78 g (⟨⟨some ⟨p1, 0, none⟩, f.fBlocks.xs.length, ho⟩, ⟨some ⟨p3, 0, none⟩, f.fBlocks.xs.length, hi⟩, ⟨p5, c5, reachB7 f⟩⟩ : FlowGraph) := var_congr (by
      show [Value.slice _ (List.replicate _ _).length _, Value.slice _ (List.replicate _ _).length _, Value.slice _ (List.replicate _ _).length _] = [Value.slice _ ho.length _, Value.slice _ hi.length _, Value.slice _ (reachB7 f).length _]
      rw [List.length_replicate, List.length_replicate, ho1, hi1, reachB7_len])
    rw [eV]
    refine (PSub.take [5, 2, 0, 1, 0, 0] rfl).trans (PSub.eq ?_)
    unfold graphP
    dsimp only
    rw [List.length_replicate, ho1, hi1, reachB7_len]
    rfl
  have hbn : b < f.fBlocks.xs.length := by omega
  have hwb := waysF_at hbn
  have hWs := (hf.k b hbn).w
  (repeat' (first | refine s_move ?_ | refine s_assign ?_ | refine s_nil ?_ | (refine k_C ?_; first | refine s_seq ?_ | refine s_region ?_ | refine s_skip ?_ | refine s_block ?_) | (refine k_E ?_; refine e_seq ?_) | (refine k_load ?_; first | refine s_ldB rfl rfl ?_ | refine s_ldSA rfl rfl om rfl ?_) | (refine k_fld ?_; refine s_fldB rfl ?_) | (refine k_idx ?_; refine s_idxS rfl rfl om ?_) | (refine k_store ?_; refine s_stW _ rfl rfl ?_) | (refine k_call ?_; refine s_len rfl ?_) | (refine s_alloc ?_; intro b)))
  rename Nat => b6
  refine s_loop (σ := Nat × List (Sl Int) × List (Sl Int)) (fun q => [(1, .pointer (some ⟨b1, 0, none⟩)), (3, .int .i64 f.fBlocks.xs.length), (4, .pointer (some ⟨g, 0, none⟩)), (21, .slice f.fBlocks.A f.fBlocks.xs.length f.fBlocks.c), (22, .int .i64 f.fBlocks.xs.length), (23, .int .i64 (b : Nat)), (5, .int .i64 (b : Nat)), (30, .slice (nth f.fBlocks.xs b).fEnd.fWays.A (nth f.fBlocks.xs b).fEnd.fWays.xs.length (nth f.fBlocks.xs b).fEnd.fWays.c), (31, .int .i64 (nth f.fBlocks.xs b).fEnd.fWays.xs.length), (32, .int .i64 (q.1 : Nat))])
    (fun q => [rws 3 q.2.1, rws 3 q.2.2, own 23 (some ⟨p1, 0, none⟩) ((List.replicate f.fBlocks.xs.length (Enc.dflt : Sl Int))).length f.fBlocks.xs.length q.2.1, own 23 (some ⟨p3, 0, none⟩) ((List.replicate f.fBlocks.xs.length (Enc.dflt : Sl Int))).length f.fBlocks.xs.length q.2.2, own 4 p5 f.fBlocks.xs.length c5 (reachB7 f), var 78 g (⟨⟨some ⟨p1, 0, none⟩, f.fBlocks.xs.length, (List.replicate f.fBlocks.xs.length (Enc.dflt : Sl Int))⟩, ⟨some ⟨p3, 0, none⟩, f.fBlocks.xs.length, (List.replicate f.fBlocks.xs.length (Enc.dflt : Sl Int))⟩, ⟨p5, c5, (List.replicate f.fBlocks.xs.length (Enc.dflt : Bool))⟩⟩ : FlowGraph), var 38 b1 f])
    (fun q => q.1 ≤ (nth f.fBlocks.xs b).fEnd.fWays.xs.length ∧ HdO f q.2.1 b q.1 ∧ HdI f q.2.2 b q.1) (fun q => (nth f.fBlocks.xs b).fEnd.fWays.xs.length - q.1) (0, ho, hi) (by repeat (first | exact trivial | refine ⟨rfl, ?_⟩)) ⟨Nat.zero_le _, hHo, hHi⟩ (PSub.take [1, 1, 1, 1, 1, 1, 1] rfl) ?_
  rintro g3 ⟨j, ho, hi⟩ ⟨hj, hHo, hHi⟩
  dsimp only at hj hHo hHi ⊢
  (repeat' (first | refine s_nil ?_ | (refine k_C ?_; first | refine s_seq ?_ | refine s_region ?_) | (refine k_E ?_; refine e_seq ?_) | (refine k_bin ?_; refine s_lss rfl rfl ?_)))
  (first | (refine k_C ?_; (refine s_ifd rfl ?_ ?_ <;> intro hc <;> try (exfalso; omega))))
  rotate_left
  · have hjE : j = (nth f.fBlocks.xs b).fEnd.fWays.xs.length := by omega
    subst hjE
    (repeat' (first | refine s_move ?_ | refine s_nil ?_ | (refine k_C ?_; first | refine s_region ?_ | refine s_exit ?_) | (refine k_E ?_; first | refine e_seq ?_ | refine e_seq_exit ?_ | refine e_bk_exit ?_ | refine e_bk ?_ | refine e_lp_exit ?_) | (refine k_bin ?_; refine s_add1 rfl rfl om ?_)))
    exact e_lp (b + 1, ho, hi) (by repeat (first | exact trivial | refine ⟨rfl, ?_⟩)) ⟨by show b + 1 ≤ _; omega, hHo.row hwb (by rw [List.length_map]; exact Nat.le_refl _), hHi.row hwb (by rw [List.length_map]; exact Nat.le_refl _)⟩ (by show _ - _ < _ - _; omega) PSub.refl
  have hjn : j < (nth f.fBlocks.xs b).fEnd.fWays.xs.length := by omega
  have htj : ((nth f.fBlocks.xs b).fEnd.fWays.xs.map (·.fTo))[j]? = some (nth (nth f.fBlocks.xs b).fEnd.fWays.xs j).fTo := by rw [List.getElem?_map, nth_some hjn]; rfl
  (repeat' (first | refine s_move ?_ | refine s_nil ?_ | (refine k_C ?_; first | refine s_seq ?_ | refine s_region ?_ | refine s_skip ?_ | refine s_block ?_ | refine s_iff rfl ?_ | (refine s_ifd rfl ?_ ?_ <;> intro hc <;> try (exfalso; omega))) | (refine k_E ?_; first | refine e_seq ?_ | refine e_bk ?_) | (refine k_load ?_; first | refine s_ldB rfl rfl ?_ | refine s_ldSA rfl rfl om rfl ?_) | (refine k_bin ?_; first | refine s_lss rfl rfl ?_ | refine s_add1 rfl rfl om ?_ | refine s_geq rfl rfl ?_) | (refine k_fld ?_; refine s_fldB rfl ?_) | (refine k_idx ?_; refine s_idxS rfl rfl om ?_) | (refine k_store ?_; refine s_stW _ rfl rfl ?_) | (refine k_guard ?_; first | refine s_on rfl rfl ?_ | refine s_off rfl rfl rfl rfl ?_ | (refine s_casesd rfl rfl ?_ ?_ <;> intro hc <;> try (exfalso; omega))) | (refine s_alloc ?_; intro b) | refine s_pick rfl ?_))
  rotate_left
  · refine e_lp (j + 1, ho, hi) (by repeat (first | exact trivial | refine ⟨rfl, ?_⟩)) ⟨by show j + 1 ≤ _; omega, hHo.no hwb htj (by unfold vld; rw [hWl]; exact decide_eq_false (by omega)), hHi.no hwb htj (by unfold vld; rw [hWl]; exact decide_eq_false (by omega))⟩ (by show _ - _ < _ - _; omega) (PSub.take [1, 1, 1, 1, 1, 1, 1] rfl)
  · refine e_lp (j + 1, ho, hi) (by repeat (first | exact trivial | refine ⟨rfl, ?_⟩)) ⟨by show j + 1 ≤ _; omega, hHo.no hwb htj (by unfold vld; rw [hWl]; exact decide_eq_false (by omega)), hHi.no hwb htj (by unfold vld; rw [hWl]; exact decide_eq_false (by omega))⟩ (by show _ - _ < _ - _; omega) (PSub.take [1, 1, 1, 1, 1, 1, 1] rfl)
  rename Nat => b8
  have hW0 : 0 ≤ (nth (nth f.fBlocks.xs b).fEnd.fWays.xs j).fTo := by omega
  have hW1 : (nth (nth f.fBlocks.xs b).fEnd.fWays.xs j).fTo < f.fBlocks.xs.length := by omega
  have hv : vld (waysF f).length (nth (nth f.fBlocks.xs b).fEnd.fWays.xs j).fTo = true := by unfold vld; rw [hWl]; exact decide_eq_true (by omega)
  have hol := hHo.l
  have hil := hHi.l
  have hbo : b < ho.length := by omega
  have hlo : (nth ho b).xs.length ≤ 1000 := by rw [hHo.x b hbn]; exact oPre_len hwl b j b
  refine s_sub (L' := [rws 3 ho, var 57 b8 (nth (nth f.fBlocks.xs b).fEnd.fWays.xs j), rws 3 hi, own 23 (some ⟨p1, 0, none⟩) ((List.replicate f.fBlocks.xs.length (Enc.dflt : Sl Int))).length f.fBlocks.xs.length ho, own 23 (some ⟨p3, 0, none⟩) ((List.replicate f.fBlocks.xs.length (Enc.dflt : Sl Int))).length f.fBlocks.xs.length hi, own 4 p5 f.fBlocks.xs.length c5 (reachB7 f), var 78 g (⟨⟨some ⟨p1, 0, none⟩, f.fBlocks.xs.length, (List.replicate f.fBlocks.xs.length (Enc.dflt : Sl Int))⟩, ⟨some ⟨p3, 0, none⟩, f.fBlocks.xs.length, (List.replicate f.fBlocks.xs.length (Enc.dflt : Sl Int))⟩, ⟨p5, c5, (List.replicate f.fBlocks.xs.length (Enc.dflt : Bool))⟩⟩ : FlowGraph), var 38 b1 f]) (PSub.take [1, 0, 0, 0, 0, 0, 0, 0] rfl) ?_
  refine s_sub (PSub.rowOut hbo) ?_
  refine s_mixApp (F := ?F10) (N := 16) (k1 := 14) (k2 := 15) (rs := [0, 1, 2, 3, 4, 5, 6, 7, 8, 9, 10, 11, 12, 13]) (nth (nth f.fBlocks.xs b).fEnd.fWays.xs j).fTo rfl foI (by kernel_rfl) ?hr10 ?hx10 ?hu10 om ?hn10
  case hr10 =>
    change sO _ _ _ _ _ _ (_ :: _ :: _ :: _ :: _ :: _ :: _ :: _ :: _ :: _ :: _ :: _ :: _ :: _ :: []) _ _ _
    (repeat' (first | refine s_move ?_ | refine s_nil ?_ | (refine k_load ?_; first | refine s_ldB rfl rfl ?_ | refine s_ld rfl om rfl ?_) | (refine k_fld ?_; refine s_fldB rfl ?_) | (refine k_idx ?_; refine s_idx rfl rfl om ?_) | refine s_nilck rfl ?_))
    exact e_F
  case hx10 => exact fun _ => rfl
  case hu10 => rfl
  intro vb A c
  change sO _ _ _ _ _ _ (_ :: _ :: []) _ _ _
  (repeat' (first | (refine k_idx ?_; refine s_idx rfl rfl om ?_)))
  refine s_st (⟨A, c, (nth ho b).xs ++ [(nth (nth f.fBlocks.xs b).fEnd.fWays.xs j).fTo]⟩ : Sl Int) rfl enc_app (by rw [List.length_replicate]; omega) ?_
  refine so_sub (PSub.rowIn hbo (by simp)) ?_
  have hHo2 := hHo.ok hbn hwb htj hv A c
  generalize ho.set b (⟨A, c, (nth ho b).xs ++ [(nth (nth f.fBlocks.xs b).fEnd.fWays.xs j).fTo]⟩ : Sl Int) = ho2 at hHo2 ⊢
  have hti : (nth (nth f.fBlocks.xs b).fEnd.fWays.xs j).fTo.toNat < hi.length := by omega
  have hli : (nth hi (nth (nth f.fBlocks.xs b).fEnd.fWays.xs j).fTo.toNat).xs.length ≤ 1001000 := by
    rw [hHi.x _ (by omega)]
    have h1 := iPre_len hwl b j (nth (nth f.fBlocks.xs b).fEnd.fWays.xs j).fTo.toNat
    have h2 : (b + 1) * 1000 ≤ 1001 * 1000 := Nat.mul_le_mul_right _ (by omega)
    omega
  refine s_nil (e_seq ?_)
  refine s_sub (L' := [rws 3 hi, rws 3 ho2, var 57 b8 (nth (nth f.fBlocks.xs b).fEnd.fWays.xs j), own 23 (some ⟨p1, 0, none⟩) ((List.replicate f.fBlocks.xs.length (Enc.dflt : Sl Int))).length f.fBlocks.xs.length ho2, own 23 (some ⟨p3, 0, none⟩) ((List.replicate f.fBlocks.xs.length (Enc.dflt : Sl Int))).length f.fBlocks.xs.length hi, own 4 p5 f.fBlocks.xs.length c5 (reachB7 f), var 78 g (⟨⟨some ⟨p1, 0, none⟩, f.fBlocks.xs.length, (List.replicate f.fBlocks.xs.length (Enc.dflt : Sl Int))⟩, ⟨some ⟨p3, 0, none⟩, f.fBlocks.xs.length, (List.replicate f.fBlocks.xs.length (Enc.dflt : Sl Int))⟩, ⟨p5, c5, (List.replicate f.fBlocks.xs.length (Enc.dflt : Bool))⟩⟩ : FlowGraph), var 38 b1 f]) (PSub.take [2, 0, 0, 0, 0, 0, 0, 0] rfl) ?_
  refine s_sub (PSub.rowOut hti) ?_
  refine s_mixApp (F := ?F11) (N := 17) (k1 := 15) (k2 := 16) (rs := [0, 1, 2, 3, 4, 5, 6, 7, 8, 9, 10, 11, 12, 13, 14]) (b : Int) rfl foI (by kernel_rfl) ?hr11 ?hx11 ?hu11 om ?hn11
  case hr11 =>
    change sO _ _ _ _ _ _ (_ :: _ :: _ :: _ :: _ :: _ :: _ :: _ :: _ :: _ :: _ :: _ :: _ :: _ :: _ :: []) _ _ _
    (repeat' (first | refine s_move ?_ | refine s_nil ?_ | (refine k_load ?_; first | refine s_ldB rfl rfl ?_ | refine s_ld rfl om rfl ?_) | (refine k_fld ?_; refine s_fldB rfl ?_) | (refine k_idx ?_; refine s_idxI rfl rfl om om ?_) | refine s_nilck rfl ?_))
    exact e_F
  case hx11 => exact fun _ => rfl
  case hu11 => rfl
  intro vb2 A2 c2
  change sO _ _ _ _ _ _ (_ :: _ :: []) _ _ _
  (repeat' (first | (refine k_idx ?_; refine s_idxI rfl rfl om om ?_)))
  refine s_st (⟨A2, c2, (nth hi (nth (nth f.fBlocks.xs b).fEnd.fWays.xs j).fTo.toNat).xs ++ [(b : Int)]⟩ : Sl Int) rfl enc_app (by rw [List.length_replicate]; omega) ?_
  refine so_sub (PSub.rowIn hti (by simp)) ?_
  have hHi2 := hHi.ok (b := b) hwb htj hW0 hW1 A2 c2
  generalize hi.set (nth (nth f.fBlocks.xs b).fEnd.fWays.xs j).fTo.toNat (⟨A2, c2, (nth hi (nth (nth f.fBlocks.xs b).fEnd.fWays.xs j).fTo.toNat).xs ++ [(b : Int)]⟩ : Sl Int) = hi2 at hHi2 ⊢
  (repeat' (first | refine s_move ?_ | refine s_nil ?_ | (refine k_C ?_; refine s_region ?_) | (refine k_E ?_; first | refine e_seq ?_ | refine e_bk ?_) | (refine k_bin ?_; refine s_add1 rfl rfl om ?_)))
  exact e_lp (j + 1, ho2, hi2) (by repeat (first | exact trivial | refine ⟨rfl, ?_⟩)) ⟨by show j + 1 ≤ _; omega, hHo2, hHi2⟩ (by show _ - _ < _ - _; omega) (PSub.take [1, 0, 1, 1, 1, 1, 1] rfl)
end Go.Proofs.Ytfplmdjlgjgbgaa
