/- The walk: New. -/
import Derived.Test.YtgcmcgbkdeealaaF2
import Derived.Test.YtgcmcgbkdeealaaG2
import Derived.Test.YtgcmcgbkdeealaaKy
namespace Go.Proofs.Ytgcmcgbkdeealaa
set_option linter.unusedVariables false
set_option linter.unusedSimpArgs false
open Go Go.RowKit

theorem made_s (n : Nat) : (madeCells #[Value.slice none 0 0] (n * 1)).toList = (List.replicate n (((none, 0), []) : Hd Int)).map hdv := by
  have := made_flat #[Value.slice none 0 0] n
  simp only [List.size_toArray, List.length_singleton] at this
  rw [this]
  simp [List.map_replicate, hdv]

def Heads (n : Nat) (hs : List (Hd Int)) (g : Nat → List Int) : Prop := hs.length = n ∧ ∀ (k : Nat) x, hs[k]? = some x → x.2 = g k
theorem Heads.begin (n : Nat) {g : Nat → List Int} (hg : ∀ k, g k = []) : Heads n (List.replicate n ((none, 0), [])) g := by
  refine ⟨by simp, fun k x hx => ?_⟩
  rw [List.getElem?_replicate] at hx
  split at hx
  · cases hx; rw [hg]
  · cases hx
theorem Heads.same {n : Nat} {hs : List (Hd Int)} {g g' : Nat → List Int} (h : Heads n hs g) (hg : ∀ k, k < n → g' k = g k) : Heads n hs g' :=
  ⟨h.1, fun k x hx => by rw [h.2 k x hx, hg k (by have := (List.getElem?_eq_some_iff.1 hx).1; rw [← h.1]; exact this)]⟩
theorem Heads.put {n : Nat} {hs : List (Hd Int)} {g g' : Nat → List Int} (h : Heads n hs g) {b : Nat} {y : Hd Int} (hy : y.2 = g' b) (hg : ∀ k, k < n → k ≠ b → g' k = g k) : Heads n (hs.set b y) g' := by
  refine ⟨by rw [List.length_set]; exact h.1, fun k x hx => ?_⟩
  have hk : k < n := by have := (List.getElem?_eq_some_iff.1 hx).1; rw [List.length_set, h.1] at this; exact this
  by_cases e : k = b
  · subst e
    rw [List.getElem?_set_self (by rw [h.1]; exact hk)] at hx
    cases hx; exact hy
  · rw [List.getElem?_set_ne (Ne.symm e)] at hx
    rw [h.2 k x hx, hg k hk e]
theorem Heads.map {n : Nat} {hs : List (Hd Int)} {g : Nat → List Int} (h : Heads n hs g) : hs.map (·.2) = (List.range n).map g := by
  apply List.ext_getElem?
  intro k
  rw [List.getElem?_map, List.getElem?_map]
  by_cases hk : k < n
  · rw [List.getElem?_range hk, List.getElem?_eq_getElem (by rw [h.1]; exact hk)]
    simp only [Option.map_some]
    rw [h.2 k _ (List.getElem?_eq_getElem (by rw [h.1]; exact hk))]
  · rw [List.getElem?_eq_none (by rw [h.1]; omega), List.getElem?_eq_none (by simp; omega)]; rfl

theorem bd42 (a0 a1 a2 : Option Addr) (n0 c0 n1 c1 n2 c2 : Nat) : Try.prog.built 42 [(0, .slice a0 n0 c0), (1, .slice a1 n1 c1), (2, .slice a2 n2 c2)] = some #[.slice a0 n0 c0, .slice a1 n1 c1, .slice a2 n2 c2] := by kernel_rfl

/-- What New makes. -/
def grL (g : Nat) (n : Nat) (bo bi : Nat) (Ar : Option Addr) (cr : Nat) (ho hi : List (Hd Int)) (r : List Bool) : List HP :=
  [row (some ⟨bo, 0, none⟩) n n 35 1 (ho.map hdv), row (some ⟨bi, 0, none⟩) n n 35 1 (hi.map hdv), row Ar n cr 4 1 (r.map bv), blk g 42 [.slice (some ⟨bo, 0, none⟩) n n, .slice (some ⟨bi, 0, none⟩) n n, .slice Ar n cr], star (ho.map (hrow iv 3)), star (hi.map (hrow iv 3))]

theorem new_any {A : Option Addr} {n c : Nat} {ways : List (List Int)} (w0 : World) (hF : RdF (okOf w0 fun _ => False) w0 A n c ways) (hn1 : n ≤ 1000) (hn2 : ∀ l ∈ ways, l.length ≤ 1000) :
    CallsV Try.prog 10 #[fval A n c] w0 fun v w' => ∃ (g bo bi : Nat) (Ar : Option Addr) (cr : Nat) (ho hi : List (Hd Int)) (r : List Bool), v = .pointer (some ⟨g, 0, none⟩) ∧ Heads n ho (outsOf ways) ∧ Heads n hi (insOf ways) ∧ r.length = n ∧ (∀ k : Nat, r[k]? = some true ↔ Rch ways 0 (-1) k) ∧
      St w0 (fun _ => False) (grL g n bo bi Ar cr ho hi r) w' := by
  have hF0 := hF
  obtain ⟨hn, cs, hR1, hcu, hR2⟩ := hF
  refine calls_of (args := [fval A n c]) Try.func10 rfl rfl rfl rfl ?_
  have H := St.begin w0
  repeat refine wC_seq ?_
  refine wC_region ?_
  refine o_box (v := fval A n c) rfl H ?_; intro b1 w H
  refine o_assign ?_
  refine o_nil ?_
  repeat refine wC_seq ?_
  refine wC_region ?_
  refine o_fld (fl := fd_30_1) (m := 0) U_30 rfl (T1_28.sz) rfl ?_
  refine o_ldB1 T1_28 H 0 rfl (o := 1) rfl rfl ?_
  refine o_len U_28 rfl ?_
  refine o_assign ?_
  refine o_nil ?_
  repeat refine wC_seq ?_
  refine wC_alloc (L0 := [blk b1 30 [.string ⟨#[]⟩, .slice A n c]])
    (fun i v R => (i = 1 → ∃ b, v = .slice (some ⟨b, 0, none⟩) n n ∧ R = row (some ⟨b, 0, none⟩) n n 35 1 ((List.replicate n (((none, 0), []) : Hd Int)).map hdv)) ∧ (i = 3 → ∃ b, v = .slice (some ⟨b, 0, none⟩) n n ∧ R = row (some ⟨b, 0, none⟩) n n 35 1 ((List.replicate n (((none, 0), []) : Hd Int)).map hdv)) ∧
      (i = 5 → ∃ (A' : Option Addr) (c' : Nat) (r : List Bool), v = .slice A' n c' ∧ r.length = n ∧ (∀ k : Nat, r[k]? = some true ↔ Rch ways 0 (-1) k) ∧ R = row A' n c' 4 1 (r.map bv)))
    6 [0, 2, 4] [1, 3, 5] ?F fo (by kernel_rfl) H ?_ ?_ ?_
  rotate_left
  · intro w' L' H
    refine o_move ?_
    refine o_move ?_
    refine o_ldBA TA_30 H 0 rfl (o := 0) rfl (Nat.le_refl _) ?_
    refine o_nil ?_
    exact rfl
  · intro i hi f w' L' hf H
    simp only [List.mem_cons, List.not_mem_nil, or_false] at hi
    rcases hi with rfl | rfl | rfl
    · refine o_make U_22 TI_35 (m := n) (hf 12 rfl) (hf 12 rfl) (by omega) H ?_; intro b w H
      refine o_nil ?_
      have em : (madeCells (Value.slice none 0 0).cells (n * 1)).toList = (List.replicate n (((none, 0), []) : Hd Int)).map hdv := made_s n
      rw [em] at H
      exact ⟨_, _, ⟨fun _ => ⟨b, rfl, rfl⟩, fun h => (by cases h), fun h => (by cases h)⟩, rfl, H⟩
    · refine o_make U_22 TI_35 (m := n) (hf 14 rfl) (hf 14 rfl) (by omega) H ?_; intro b w H
      refine o_nil ?_
      have em : (madeCells (Value.slice none 0 0).cells (n * 1)).toList = (List.replicate n (((none, 0), []) : Hd Int)).map hdv := made_s n
      rw [em] at H
      exact ⟨_, _, ⟨fun h => (by cases h), fun _ => ⟨b, rfl, rfl⟩, fun h => (by cases h)⟩, rfl, H⟩
    · refine o_callF (vs := [fval A n c]) F_18 (congrArg (fun x => [x]) (hf 16 rfl)) (reach_any w' (hF0.loc (okOf_step H.step)) hn1 hn2) ?_
      rintro v w ⟨A', c', r, rfl, h1, h2, H5⟩
      have H := H.call0 _ _ H5
      refine o_nil ?_
      exact ⟨_, _, ⟨fun h => (by cases h), fun h => (by cases h), fun _ => ⟨A', c', r, rfl, h1, h2, rfl⟩⟩, rfl, H⟩
  intro vs Rs w hok H
  obtain ⟨bo, hv1, hR1'⟩ := (hok 1 (by simp)).1 rfl
  obtain ⟨bi, hv3, hR3'⟩ := (hok 3 (by simp)).2.1 rfl
  obtain ⟨Ar, cr, r, hv5, hrl, hrr, hR5'⟩ := (hok 5 (by simp)).2.2 rfl
  have H : St w0 (fun _ => False) [blk b1 30 [.string ⟨#[]⟩, .slice A n c], Rs 1, Rs 3, Rs 5] w := H
  rw [hR1', hR3', hR5'] at H
  refine o_build (pv := [(0, .slice (some ⟨bo, 0, none⟩) n n), (1, .slice (some ⟨bi, 0, none⟩) n n), (2, .slice Ar n cr)]) (cells := [.slice (some ⟨bo, 0, none⟩) n n, .slice (some ⟨bi, 0, none⟩) n n, .slice Ar n cr]) ?_ (bd42 _ _ _ _ _ _ _ _ _) ?_
  · show [(0, vs 1), (1, vs 3), (2, vs 5)] = _
    rw [hv1, hv3, hv5]
  refine o_box (v := .agg #[.slice (some ⟨bo, 0, none⟩) n n, .slice (some ⟨bi, 0, none⟩) n n, .slice Ar n cr]) rfl H ?_; intro g w H
  refine o_assign ?_
  refine o_nil ?_
  have H := (H.nils iv 3 n)
  have H := (H.nils iv 3 n)
  repeat refine wC_seq ?_
  refine wC_region ?_
  refine o_fld (fl := fd_30_1) (m := 0) U_30 rfl (T1_28.sz) rfl ?_
  refine o_ldB1 T1_28 H 0 rfl (o := 1) rfl rfl ?_
  refine o_len U_28 rfl ?_
  refine o_move ?_
  refine o_nil ?_
  repeat refine wC_seq ?_
  refine wC_block ?_
  refine wC_loop (σ := Nat × List (Hd Int) × List (Hd Int)) (fun s => [(3, .int .i64 (n : Nat)), (4, .pointer (some ⟨g, 0, none⟩)), (21, .slice A n c), (22, .int .i64 (n : Nat)), (23, .int .i64 (s.1 : Nat))])
    (fun s w' => s.1 ≤ n ∧ Heads n s.2.1 (oPre ways s.1 0) ∧ Heads n s.2.2 (iPre ways s.1 0) ∧ St w0 (fun _ => False) [blk b1 30 [.string ⟨#[]⟩, .slice A n c], row (some ⟨bo, 0, none⟩) n n 35 1 (s.2.1.map hdv), row (some ⟨bi, 0, none⟩) n n 35 1 (s.2.2.map hdv), row Ar n cr 4 1 (r.map bv), blk g 42 [.slice (some ⟨bo, 0, none⟩) n n, .slice (some ⟨bi, 0, none⟩) n n, .slice Ar n cr], star (s.2.1.map (hrow iv 3)), star (s.2.2.map (hrow iv 3))] w') (fun s => n - s.1)
    (0, List.replicate n ((none, 0), []), List.replicate n ((none, 0), [])) ⟨rfl, rfl, rfl, rfl, rfl, trivial⟩ ⟨Nat.zero_le _, Heads.begin n (oPre_0 ways), Heads.begin n (iPre_0 ways), H⟩ ?_
  rintro f ⟨b, ho, hi⟩ w1 ⟨hb, hho, hhi, H⟩
  simp only at hb hho hhi H ⊢
  repeat refine wC_seq ?_
  refine wC_region ?_
  by_cases hlt : b < n
  · refine o_lss true rfl rfl (by simp; omega) ?_
    refine o_nil ?_
    repeat refine wC_seq ?_
    refine wC_if true rfl ?_
    refine wC_skip ?_
    obtain ⟨l, hl⟩ : ∃ l, ways[b]? = some l := ⟨_, List.getElem?_eq_getElem (by omega)⟩
    have hll := hn2 l (List.mem_of_getElem? hl)
    obtain ⟨A', c', hcs, hRl⟩ := hR2 b l hl
    repeat refine wC_seq ?_
    refine wC_block ?_
    repeat refine wC_seq ?_
    refine wC_region ?_
    refine o_move ?_
    refine o_idxS U_28 TI_50 hR1 rfl rfl (by omega) (by omega) ?_
    rintro aA rfl hCA
    refine o_ldSA TA_50 H hCA (b * 6) rfl (by rw [hR1.1]; omega) ?_
    refine o_alloc TI_50.zero H ?_; intro b6 w H
    refine o_assign ?_
    have hct : b * 6 + 6 ≤ cs.length := by rw [hR1.1]; omega
    have hbl : ((cs.drop (b * 6)).take 6).length = 6 := by simp; omega
    refine o_stB (v := .agg ((cs.drop (b * 6)).take 6).toArray) (fun w => by have := TI_50.size w; rw [this]; simp [Value.cells]; omega) H 7 rfl rfl rfl (by simp [Value.cells]; omega) (by
      intro u hu
      have hu : u ∈ (cs.drop (b * 6)).take 6 := hu
      exact hcu u (List.mem_of_mem_drop (List.mem_of_mem_take hu))) ?_; intro w H
    refine o_nil ?_
    have eb : lay (Value.agg #[.slice none 0 0, .slice none 0 0, .int .i64 0, .int .i64 0, .slice none 0 0, .int .i64 0]).cells.toList 0 (Value.agg ((cs.drop (b * 6)).take 6).toArray).cells.toList = (cs.drop (b * 6)).take 6 := lay_all _ _ (by show ((cs.drop (b * 6)).take 6).length = 6; exact hbl)
    rw [eb] at H
    generalize hcb : (cs.drop (b * 6)).take 6 = cb at H
    repeat refine wC_seq ?_
    refine wC_region ?_
    refine o_fld (fl := fd_50_2) (m := 3) U_50 rfl (TA_48.sz) rfl ?_
    refine o_fld (fl := fd_48_2) (m := 0) U_48 rfl (T1_45.sz) rfl ?_
    refine o_ldB1 T1_45 H 7 rfl (o := 4) rfl (v := .slice A' l.length c') (by rw [← hcb, List.getElem?_take_of_lt (by omega), List.getElem?_drop]; exact hcs) ?_
    refine o_len U_45 rfl ?_
    refine o_move ?_
    refine o_nil ?_
    repeat refine wC_seq ?_
    refine wC_block ?_
    refine wC_loop (σ := Nat × List (Hd Int) × List (Hd Int)) (fun s => [(3, .int .i64 (n : Nat)), (4, .pointer (some ⟨g, 0, none⟩)), (5, .int .i64 (b : Nat)), (21, .slice (some aA) n c), (22, .int .i64 (n : Nat)), (23, .int .i64 (b : Nat)), (30, .slice A' l.length c'), (31, .int .i64 l.length), (32, .int .i64 (s.1 : Nat))])
      (fun s w' => s.1 ≤ l.length ∧ Heads n s.2.1 (oPre ways b s.1) ∧ Heads n s.2.2 (iPre ways b s.1) ∧ St w0 (fun _ => False) [blk b1 30 [.string ⟨#[]⟩, .slice (some aA) n c], row (some ⟨bo, 0, none⟩) n n 35 1 (s.2.1.map hdv), row (some ⟨bi, 0, none⟩) n n 35 1 (s.2.2.map hdv), row Ar n cr 4 1 (r.map bv), blk g 42 [.slice (some ⟨bo, 0, none⟩) n n, .slice (some ⟨bi, 0, none⟩) n n, .slice Ar n cr], star (s.2.1.map (hrow iv 3)), star (s.2.2.map (hrow iv 3)), blk b6 50 cb] w') (fun s => l.length - s.1)
      (0, ho, hi) ⟨rfl, rfl, rfl, rfl, rfl, rfl, rfl, rfl, rfl, trivial⟩ ⟨Nat.zero_le _, hho, hhi, H⟩ ?_
    rintro f ⟨j, ho, hi⟩ w1 ⟨hj, hho, hhi, H⟩
    simp only at hj hho hhi H ⊢
    repeat refine wC_seq ?_
    refine wC_region ?_
    by_cases hltj : j < l.length
    · refine o_lss true rfl rfl (by simp; omega) ?_
      refine o_nil ?_
      repeat refine wC_seq ?_
      refine wC_if true rfl ?_
      refine wC_skip ?_
      obtain ⟨to, hto⟩ : ∃ x, l[j]? = some x := ⟨_, List.getElem?_eq_getElem hltj⟩
      repeat refine wC_seq ?_
      refine wC_block ?_
      repeat refine wC_seq ?_
      refine wC_region ?_
      refine o_idxS U_45 TI_52 hRl rfl rfl (by omega) (by omega) ?_
      rintro a' rfl hC'
      refine o_ldSA TA_52 H hC' (j * 2) rfl (by rw [flat_len (ec_len l)]; omega) ?_
      rw [flat_at (ec_len l) hto]
      refine o_alloc TI_52.zero H ?_; intro b8 w H
      refine o_stB (v := .agg (ecells to).toArray) TI_52.size H 8 rfl rfl rfl (Nat.le_refl 2) (by simp [ecells, Value.cells, Value.oneCell']) ?_; intro w H
      refine o_nil ?_
      repeat refine wC_seq ?_
      refine wC_region ?_
      refine o_fld (fl := fd_52_0) (m := 0) U_52 rfl (T1_3.sz) rfl ?_
      refine o_ldB1 T1_3 H 8 rfl (o := 0) rfl (v := .int .i64 to) rfl ?_
      by_cases h1 : 0 ≤ to
      case neg =>
        refine o_geq false rfl rfl (by simp; omega) ?_
        refine o_move ?_
        refine o_off (d := 39) rfl rfl rfl rfl ?_
        refine o_off (d := 39) rfl rfl rfl rfl ?_
        refine o_off (d := 39) rfl rfl rfl rfl ?_
        refine o_off (d := 39) rfl rfl rfl rfl ?_
        refine o_pick false rfl ?_
        refine o_nil ?_
        repeat refine wC_seq ?_
        refine wC_if false rfl ?_
        refine wC_skip ?_
        repeat refine wC_seq ?_
        refine wC_region ?_
        refine o_add64 rfl rfl (by omega) ?_
        refine o_move ?_
        refine o_nil ?_
        have hv : vld ways.length to = false := by unfold vld; simp; omega
        exact ⟨(j + 1, ho, hi), ⟨rfl, rfl, rfl, rfl, rfl, rfl, rfl, rfl, rfl, trivial⟩, ⟨hltj, hho.same fun k _ => oPre_no hl hto hv, hhi.same fun k hk => iPre_no hl hto (by omega) hv, H.drop 8⟩, by show l.length - (j + 1) < l.length - j; omega⟩
      refine o_geq true rfl rfl (by simp; omega) ?_
      refine o_move ?_
      refine o_on (d := 39) rfl rfl (fun _ _ => ?_)
      refine o_fld (fl := fd_52_0) (m := 0) U_52 rfl (T1_3.sz) rfl ?_
      refine o_on (d := 39) rfl rfl (fun _ _ => ?_)
      refine o_ldB1 T1_3 H 8 rfl (o := 0) rfl (v := .int .i64 to) rfl ?_
      refine o_on (d := 39) rfl rfl (fun _ _ => ?_)
      refine o_move ?_
      refine o_on (d := 39) rfl rfl (fun _ _ => ?_)
      by_cases h2 : to < n
      case neg =>
        refine o_lss false rfl rfl (by simp; omega) ?_
        refine o_pick true rfl ?_
        refine o_nil ?_
        repeat refine wC_seq ?_
        refine wC_if false rfl ?_
        refine wC_skip ?_
        repeat refine wC_seq ?_
        refine wC_region ?_
        refine o_add64 rfl rfl (by omega) ?_
        refine o_move ?_
        refine o_nil ?_
        have hv : vld ways.length to = false := by unfold vld; simp; omega
        exact ⟨(j + 1, ho, hi), ⟨rfl, rfl, rfl, rfl, rfl, rfl, rfl, rfl, rfl, trivial⟩, ⟨hltj, hho.same fun k _ => oPre_no hl hto hv, hhi.same fun k hk => iPre_no hl hto (by omega) hv, H.drop 8⟩, by show l.length - (j + 1) < l.length - j; omega⟩
      refine o_lss true rfl rfl (by simp; omega) ?_
      refine o_pick true rfl ?_
      refine o_nil ?_
      repeat refine wC_seq ?_
      refine wC_if true rfl ?_
      obtain ⟨t, rfl⟩ : ∃ t : Nat, to = (t : Int) := ⟨to.toNat, by omega⟩
      have htn : t < n := by omega
      have hv : vld ways.length (t : Int) = true := by unfold vld; simp; omega
      obtain ⟨x, hx⟩ : ∃ x, ho[b]? = some x := ⟨_, List.getElem?_eq_getElem (by rw [hho.1]; exact hlt)⟩
      have hxl : x.2.length ≤ 1000 := by rw [hho.2 b x hx]; exact oPre_len hn2 _ _ _
      have hpx : (ho.map (hrow iv 3))[b]? = some (row x.1.1 x.2.length x.1.2 3 1 (x.2.map iv)) := by rw [List.getElem?_map, hx]; rfl
      have H := H.pull 5 rfl b hpx
      have H : St w0 (fun _ => False) [blk b1 30 [.string ⟨#[]⟩, .slice (some aA) n c], row (some ⟨bo, 0, none⟩) n n 35 1 (ho.map hdv), row (some ⟨bi, 0, none⟩) n n 35 1 (hi.map hdv), row Ar n cr 4 1 (r.map bv), blk g 42 [.slice (some ⟨bo, 0, none⟩) n n, .slice (some ⟨bi, 0, none⟩) n n, .slice Ar n cr], star ((ho.map (hrow iv 3)).eraseIdx b), star (hi.map (hrow iv 3)), blk b6 50 cb, blk b8 52 (ecells t), row x.1.1 x.2.length x.1.2 3 1 (x.2.map iv)] w := H
      repeat refine wC_seq ?_
      refine wC_mix (J := fun w' => ∃ L', St w0 (fun _ => False) (blk b1 30 [.string ⟨#[]⟩, .slice (some aA) n c] :: row (some ⟨bo, 0, none⟩) n n 35 1 (ho.map hdv) :: row (some ⟨bi, 0, none⟩) n n 35 1 (hi.map hdv) :: row Ar n cr 4 1 (r.map bv) :: blk g 42 [.slice (some ⟨bo, 0, none⟩) n n, .slice (some ⟨bi, 0, none⟩) n n, .slice Ar n cr] :: star ((ho.map (hrow iv 3)).eraseIdx b) :: star (hi.map (hrow iv 3)) :: blk b6 50 cb :: blk b8 52 (ecells t) :: L') w') 16 [0, 1, 2, 3, 4, 5, 6, 7, 8, 9, 10, 11, 12, 13] [14, 15] ?F1 fo (by kernel_rfl) ⟨_, H.idle (Step.drew w _)⟩ ?_ ?_
      rotate_left
      · rintro w3 ⟨L', H⟩
        refine o_move ?_
        refine o_nilck rfl ?_
        refine o_fld (fl := fd_42_0) (m := 0) U_42 rfl (T1_22.sz) rfl ?_
        refine o_ldB1 T1_22 H 4 rfl (o := 0) rfl rfl ?_
        refine o_move ?_
        refine o_move ?_
        refine o_nilck rfl ?_
        refine o_fld (fl := fd_42_0) (m := 0) U_42 rfl (T1_22.sz) rfl ?_
        refine o_ldB1 T1_22 H 4 rfl (o := 0) rfl rfl ?_
        refine o_move ?_
        refine o_idxR U_22 TI_35 H 1 rfl rfl rfl (by omega) (by omega) ?_
        rintro a2 ha2 hsp2
        cases ha2
        refine o_ldR1 T1_35 H 1 rfl (b * 1) rfl (v := .slice x.1.1 x.2.length x.1.2) (by rw [Nat.mul_one, List.getElem?_map, hx]; rfl) ?_
        refine o_fld (fl := fd_52_0) (m := 0) U_52 rfl (T1_3.sz) rfl ?_
        refine o_ldB1 T1_3 H 8 rfl (o := 0) rfl (v := .int .i64 t) rfl ?_
        refine o_nil ?_
        exact rfl
      have H := H.idle (Step.drew w _)
      refine o_lit (pv := [(0, .int .i64 t)]) (cells := [(t : Int)].map iv) U_35 TI_3 (by decide) rfl (by simp [Value.cells]) rfl H ?_; intro b59 w H
      refine o_nil ?_
      refine ⟨⟨_, H⟩, ?_⟩
      refine o_appR U_35 TI_3 H 9 10 rfl rfl rfl rfl (ivs_one _) (by omega) ?_; intro X cX w H
      refine o_nil ?_
      refine ⟨⟨_, H⟩, ?_⟩
      refine o_idxR U_22 TI_35 H 1 rfl rfl rfl (by omega) (by omega) ?_
      rintro a2 ha2 hsp2
      cases ha2
      refine o_stR (v := .slice X (x.2.length + 1) cX) TI_35.size H 1 rfl (b * 1) rfl rfl (by simp [Value.cells, hho.1]; omega) (by simp [Value.cells, Value.oneCell']) ?_; intro w H
      refine o_nil ?_
      have hset : lay (ho.map hdv) (b * 1) (Value.slice X (x.2.length + 1) cX).cells.toList = (ho.set b ((X, cX), x.2 ++ [(t : Int)])).map hdv := by
        show lay (ho.map hdv) (b * 1) [Value.slice X (x.2.length + 1) cX] = _
        rw [Nat.mul_one, lay_one _ _ _ (by simp [hho.1]; exact hlt), List.map_set]; simp [hdv]
      rw [hset] at H
      have H := (H.drop 10).push (L1 := [_, _, _, _, _, _, _, _, _]) 5 b rfl (by simp [hho.1]; exact hlt)
      have hhr : row X (x.2.length + 1) cX 3 1 (x.2.map iv ++ [(t : Int)].map iv) = hrow iv 3 ((X, cX), x.2 ++ [(t : Int)]) := by unfold hrow; simp
      rw [hhr, ← List.map_set] at H
      have hho' : Heads n (ho.set b ((X, cX), x.2 ++ [(t : Int)])) (oPre ways b (j + 1)) := hho.put (by rw [oPre_ok hl hto hv, if_pos rfl, hho.2 b x hx]) fun k _ hk => by rw [oPre_ok hl hto hv, if_neg hk]
      generalize ho.set b ((X, cX), x.2 ++ [(t : Int)]) = ho at H hho'
      obtain ⟨y, hy⟩ : ∃ y, hi[t]? = some y := ⟨_, List.getElem?_eq_getElem (by rw [hhi.1]; exact htn)⟩
      have hyl : y.2.length ≤ 1001000 := by
        rw [hhi.2 t y hy]
        refine Nat.le_trans (iPre_len hn2 _ _ _) ?_
        omega
      have hpy : (hi.map (hrow iv 3))[t]? = some (row y.1.1 y.2.length y.1.2 3 1 (y.2.map iv)) := by rw [List.getElem?_map, hy]; rfl
      have H := H.pull 6 rfl t hpy
      have H : St w0 (fun _ => False) [blk b1 30 [.string ⟨#[]⟩, .slice (some aA) n c], row (some ⟨bo, 0, none⟩) n n 35 1 (ho.map hdv), row (some ⟨bi, 0, none⟩) n n 35 1 (hi.map hdv), row Ar n cr 4 1 (r.map bv), blk g 42 [.slice (some ⟨bo, 0, none⟩) n n, .slice (some ⟨bi, 0, none⟩) n n, .slice Ar n cr], star (ho.map (hrow iv 3)), star ((hi.map (hrow iv 3)).eraseIdx t), blk b6 50 cb, blk b8 52 (ecells t), row y.1.1 y.2.length y.1.2 3 1 (y.2.map iv)] w := H
      repeat refine wC_seq ?_
      refine wC_mix (J := fun w' => ∃ L', St w0 (fun _ => False) (blk b1 30 [.string ⟨#[]⟩, .slice (some aA) n c] :: row (some ⟨bo, 0, none⟩) n n 35 1 (ho.map hdv) :: row (some ⟨bi, 0, none⟩) n n 35 1 (hi.map hdv) :: row Ar n cr 4 1 (r.map bv) :: blk g 42 [.slice (some ⟨bo, 0, none⟩) n n, .slice (some ⟨bi, 0, none⟩) n n, .slice Ar n cr] :: star (ho.map (hrow iv 3)) :: star ((hi.map (hrow iv 3)).eraseIdx t) :: blk b6 50 cb :: blk b8 52 (ecells t) :: L') w') 17 [0, 1, 2, 3, 4, 5, 6, 7, 8, 9, 10, 11, 12, 13, 14] [15, 16] ?F2 fo (by kernel_rfl) ⟨_, H.idle (Step.drew w _)⟩ ?_ ?_
      rotate_left
      · rintro w3 ⟨L', H⟩
        refine o_move ?_
        refine o_nilck rfl ?_
        refine o_fld (fl := fd_42_1) (m := 0) U_42 rfl (T1_22.sz) rfl ?_
        refine o_ldB1 T1_22 H 4 rfl (o := 1) rfl rfl ?_
        refine o_fld (fl := fd_52_0) (m := 0) U_52 rfl (T1_3.sz) rfl ?_
        refine o_ldB1 T1_3 H 8 rfl (o := 0) rfl (v := .int .i64 t) rfl ?_
        refine o_move ?_
        refine o_nilck rfl ?_
        refine o_fld (fl := fd_42_1) (m := 0) U_42 rfl (T1_22.sz) rfl ?_
        refine o_ldB1 T1_22 H 4 rfl (o := 1) rfl rfl ?_
        refine o_fld (fl := fd_52_0) (m := 0) U_52 rfl (T1_3.sz) rfl ?_
        refine o_ldB1 T1_3 H 8 rfl (o := 0) rfl (v := .int .i64 t) rfl ?_
        refine o_idxR U_22 TI_35 H 2 rfl rfl rfl (by omega) (by omega) ?_
        rintro a2 ha2 hsp2
        cases ha2
        refine o_ldR1 T1_35 H 2 rfl (t * 1) rfl (v := .slice y.1.1 y.2.length y.1.2) (by rw [Nat.mul_one, List.getElem?_map, hy]; rfl) ?_
        refine o_move ?_
        refine o_nil ?_
        exact rfl
      have H := H.idle (Step.drew w _)
      refine o_lit (pv := [(0, .int .i64 (b : Nat))]) (cells := [(b : Int)].map iv) U_35 TI_3 (by decide) rfl (by simp [Value.cells]) rfl H ?_; intro b77 w H
      refine o_nil ?_
      refine ⟨⟨_, H⟩, ?_⟩
      refine o_appR U_35 TI_3 H 9 10 rfl rfl rfl rfl (ivs_one _) (by omega) ?_; intro X cX w H
      refine o_nil ?_
      refine ⟨⟨_, H⟩, ?_⟩
      refine o_idxR U_22 TI_35 H 2 rfl rfl rfl (by omega) (by omega) ?_
      rintro a2 ha2 hsp2
      cases ha2
      refine o_stR (v := .slice X (y.2.length + 1) cX) TI_35.size H 2 rfl (t * 1) rfl rfl (by simp [Value.cells, hhi.1]; omega) (by simp [Value.cells, Value.oneCell']) ?_; intro w H
      refine o_nil ?_
      have hset : lay (hi.map hdv) (t * 1) (Value.slice X (y.2.length + 1) cX).cells.toList = (hi.set t ((X, cX), y.2 ++ [(b : Int)])).map hdv := by
        show lay (hi.map hdv) (t * 1) [Value.slice X (y.2.length + 1) cX] = _
        rw [Nat.mul_one, lay_one _ _ _ (by simp [hhi.1]; exact htn), List.map_set]; simp [hdv]
      rw [hset] at H
      have H := (H.drop 10).push (L1 := [_, _, _, _, _, _, _, _, _]) 6 t rfl (by simp [hhi.1]; exact htn)
      have hhr : row X (y.2.length + 1) cX 3 1 (y.2.map iv ++ [(b : Int)].map iv) = hrow iv 3 ((X, cX), y.2 ++ [(b : Int)]) := by unfold hrow; simp
      rw [hhr, ← List.map_set] at H
      have hhi' : Heads n (hi.set t ((X, cX), y.2 ++ [(b : Int)])) (iPre ways b (j + 1)) := hhi.put (by rw [iPre_ok hl hto, if_pos rfl, hhi.2 t y hy]) fun k _ hk => by rw [iPre_ok hl hto, if_neg (by omega)]
      generalize hi.set t ((X, cX), y.2 ++ [(b : Int)]) = hi at H hhi'
      repeat refine wC_seq ?_
      refine wC_region ?_
      refine o_add64 rfl rfl (by omega) ?_
      refine o_move ?_
      refine o_nil ?_
      exact ⟨(j + 1, ho, hi), ⟨rfl, rfl, rfl, rfl, rfl, rfl, rfl, rfl, rfl, trivial⟩, ⟨hltj, hho', hhi', H.drop 8⟩, by show l.length - (j + 1) < l.length - j; omega⟩
    · refine o_lss false rfl rfl (by simp; omega) ?_
      refine o_nil ?_
      repeat refine wC_seq ?_
      refine wC_if false rfl ?_
      refine wC_exit ?_
      repeat refine wC_seq ?_
      refine wC_region ?_
      refine o_add64 rfl rfl (by omega) ?_
      refine o_move ?_
      refine o_nil ?_
      exact ⟨(b + 1, ho, hi), ⟨rfl, rfl, rfl, rfl, rfl, trivial⟩, ⟨hlt, hho.same fun k _ => (oPre_row hl (by omega)).symm, hhi.same fun k _ => (iPre_row hl (by omega)).symm, H.drop 7⟩, by show n - (b + 1) < n - b; omega⟩
  · refine o_lss false rfl rfl (by simp; omega) ?_
    refine o_nil ?_
    repeat refine wC_seq ?_
    refine wC_if false rfl ?_
    refine wC_exit ?_
    obtain rfl : b = n := by omega
    repeat refine wC_seq ?_
    refine wC_region ?_
    refine o_move ?_
    refine o_assign ?_
    refine o_nil ?_
    refine wC_ret ?_
    refine ⟨g, bo, bi, Ar, cr, ho, hi, r, rfl, hho.same fun k hk => ?_, hhi.same fun k hk => ?_, hrl, hrr, H.drop 0⟩
    · rw [← hn]; exact (oPre_end (by omega)).symm
    · rw [← hn]; exact iPre_end.symm
end Go.Proofs.Ytgcmcgbkdeealaa
