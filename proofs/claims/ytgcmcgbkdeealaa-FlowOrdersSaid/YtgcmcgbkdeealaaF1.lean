/- The walks of layer 11: few, of. -/
import Derived.Test.YtgcmcgbkdeealaaFacts
import Derived.Test.YtgcmcgbkdeealaaKn
namespace Go.Proofs.Ytgcmcgbkdeealaa
set_option linter.unusedVariables false
set_option linter.unusedSimpArgs false
open Go Go.RowKit

theorem fo : Try.prog.follows .mixedOrders = true := by kernel_rfl
abbrev iv : Int → Value := .int .i64
abbrev bv : Bool → Value := .bool

def fewB (ways : List (List Int)) : Bool := decide (ways.length ≤ 12) && ways.all fun l => decide (l.length ≤ 6)

theorem few_any {A : Option Addr} {n c : Nat} {ways : List (List Int)} (w0 : World) (hR : Rd2 iv (okOf w0 fun _ => False) w0 A n c ways) :
    CallsV Try.prog 9 #[.slice A n c] w0 fun v w' => v = .bool (fewB ways) ∧ Step w0 (fun _ => False) w' := by
  obtain ⟨hn, hs, hR1, hR2⟩ := hR
  refine calls_of (args := [.slice A n c]) Try.func9 rfl rfl rfl rfl ?_
  have H := St.begin w0
  repeat refine wC_seq ?_
  refine wC_region ?_
  refine o_assign ?_
  refine o_nil ?_
  repeat refine wC_seq ?_
  refine wC_region ?_
  refine o_move ?_
  refine o_len U_22 rfl ?_
  by_cases h12 : n ≤ 12
  case neg =>
    refine o_gtr true rfl rfl (by simp; omega) ?_
    refine o_nil ?_
    repeat refine wC_seq ?_
    refine wC_if true rfl ?_
    repeat refine wC_seq ?_
    refine wC_region ?_
    refine o_assign ?_
    refine o_nil ?_
    refine wC_ret ?_
    have : fewB ways = false := by unfold fewB; rw [hn]; simp [h12]
    rw [this]
    exact ⟨rfl, H.step⟩
  refine o_gtr false rfl rfl (by simp; omega) ?_
  refine o_nil ?_
  repeat refine wC_seq ?_
  refine wC_if false rfl ?_
  refine wC_skip ?_
  repeat refine wC_seq ?_
  refine wC_region ?_
  refine o_move ?_
  refine o_len U_22 rfl ?_
  refine o_move ?_
  refine o_nil ?_
  repeat refine wC_seq ?_
  refine wC_block ?_
  refine wC_loop (σ := Nat) (fun k => [(8, .slice A n c), (9, .int .i64 (n : Nat)), (10, .int .i64 (k : Nat))])
    (fun k w' => k ≤ n ∧ (∀ l ∈ ways.take k, l.length ≤ 6) ∧ St w0 (fun _ => False) [] w') (fun k => n - k)
    0 ⟨rfl, rfl, rfl, trivial⟩ ⟨Nat.zero_le _, by simp, H⟩ ?_
  rintro f k w1 ⟨hk, hall, H⟩
  repeat refine wC_seq ?_
  refine wC_region ?_
  by_cases hlt : k < n
  · refine o_lss true rfl rfl (by simp; omega) ?_
    refine o_nil ?_
    repeat refine wC_seq ?_
    refine wC_if true rfl ?_
    refine wC_skip ?_
    obtain ⟨l, hl⟩ : ∃ l, ways[k]? = some l := ⟨_, List.getElem?_eq_getElem (by omega)⟩
    obtain ⟨A', c', hh, hRl⟩ := hR2 k l hl
    repeat refine wC_seq ?_
    refine wC_block ?_
    repeat refine wC_seq ?_
    refine wC_region ?_
    refine o_idxS U_22 TI_35 hR1 rfl rfl (by omega) (by omega) ?_
    rintro a rfl hC
    refine o_ldS1 T1_35 H hC (k * 1) rfl (by rw [Nat.mul_one]; exact hh) ?_
    refine o_assign ?_
    refine o_nil ?_
    repeat refine wC_seq ?_
    refine wC_region ?_
    refine o_move ?_
    refine o_len U_35 rfl ?_
    by_cases h6 : l.length ≤ 6
    · refine o_gtr false rfl rfl (by simp; omega) ?_
      refine o_nil ?_
      repeat refine wC_seq ?_
      refine wC_if false rfl ?_
      refine wC_skip ?_
      repeat refine wC_seq ?_
      refine wC_region ?_
      refine o_add64 rfl rfl (by omega) ?_
      refine o_move ?_
      refine o_nil ?_
      refine ⟨k + 1, ⟨rfl, rfl, rfl, trivial⟩, ⟨hlt, fun x hx => ?_, H⟩, by show n - (k + 1) < n - k; omega⟩
      obtain ⟨hk', he⟩ := List.getElem?_eq_some_iff.1 hl
      rw [List.take_succ_eq_append_getElem hk', he] at hx
      rcases List.mem_append.1 hx with h | h
      · exact hall x h
      · simp at h; subst h; exact h6
    · refine o_gtr true rfl rfl (by simp; omega) ?_
      refine o_nil ?_
      repeat refine wC_seq ?_
      refine wC_if true rfl ?_
      repeat refine wC_seq ?_
      refine wC_region ?_
      refine o_assign ?_
      refine o_nil ?_
      refine wC_ret ?_
      have : fewB ways = false := by
        unfold fewB
        rw [Bool.and_eq_false_iff]
        refine .inr (Bool.eq_false_iff.2 fun h => ?_)
        have := List.all_eq_true.1 h l (List.mem_of_getElem? hl)
        simp at this; omega
      rw [this]
      exact ⟨rfl, H.step⟩
  · refine o_lss false rfl rfl (by simp; omega) ?_
    refine o_nil ?_
    repeat refine wC_seq ?_
    refine wC_if false rfl ?_
    refine wC_exit ?_
    repeat refine wC_seq ?_
    refine wC_region ?_
    refine o_assign ?_
    refine o_nil ?_
    refine wC_ret ?_
    have : fewB ways = true := by
      unfold fewB
      rw [Bool.and_eq_true]
      refine ⟨by simp; omega, List.all_eq_true.2 fun x hx => ?_⟩
      rw [List.take_of_length_le (by omega)] at hall
      simpa using hall x hx
    rw [this]
    exact ⟨rfl, H.step⟩

/-! ### functions of blocks -/
def ecells (to : Int) : List Value := [.int .i64 to, .slice none 0 0]
def bcn (A : Option Addr) (n c : Nat) : List Value := [.slice none 0 0, .slice none 0 0, .int .i64 0, .int .i64 0, .slice A n c, .int .i64 0]
def bcells (x : Hd Int) : List Value := bcn x.1.1 x.2.length x.1.2
theorem ec_len (l : List Int) : ∀ a ∈ l, (ecells a).length = 2 := fun _ _ => rfl
theorem bc_len (l : List (Hd Int)) : ∀ a ∈ l, (bcells a).length = 6 := fun _ _ => rfl
theorem ec_one (l : List Int) : ∀ u ∈ l.flatMap ecells, u.oneCell' = true := by
  intro u hu
  obtain ⟨x, _, hx⟩ := List.mem_flatMap.1 hu
  simp [ecells] at hx
  rcases hx with rfl | rfl <;> rfl
theorem bcv_one (x : Hd Int) : ∀ u ∈ bcells x, u.oneCell' = true := by
  intro u hx
  simp [bcells, bcn] at hx
  rcases hx with rfl | rfl | rfl | rfl <;> rfl
theorem bc_one (l : List (Hd Int)) : ∀ u ∈ l.flatMap bcells, u.oneCell' = true := by
  intro u hu
  obtain ⟨x, _, hx⟩ := List.mem_flatMap.1 hu
  exact bcv_one x u hx
/-- The edges of a block. -/
def erow (x : Hd Int) : HP := row x.1.1 x.2.length x.1.2 52 2 (x.2.flatMap ecells)
def fval (A : Option Addr) (n c : Nat) : Value := .agg #[.string ⟨#[]⟩, .slice A n c]

/-- A function that is only read: where its ways go. -/
def RdF (ok : FP) (w : World) (A : Option Addr) (n c : Nat) (ways : List (List Int)) : Prop :=
  ways.length = n ∧ ∃ cs : List Value, RdS ok w A n c 6 cs ∧ (∀ u ∈ cs, u.oneCell' = true) ∧ ∀ (j : Nat) l, ways[j]? = some l → ∃ A' c', cs[j * 6 + 4]? = some (.slice A' l.length c') ∧ RdS ok w A' l.length c' 2 (l.flatMap ecells)
theorem RdF.loc {ok ok' : FP} {w w' : World} {A : Option Addr} {n c : Nat} {ways : List (List Int)} (h : RdF ok w A n c ways) (hk : ∀ b, ok b → ok' b ∧ w'.heap[b]? = w.heap[b]?) : RdF ok' w' A n c ways := by
  obtain ⟨h0, cs, h1, hu, h2⟩ := h
  refine ⟨h0, cs, h1.loc hk, hu, fun j l hj => ?_⟩
  obtain ⟨A', c', h3, h4⟩ := h2 j l hj
  exact ⟨A', c', h3, h4.loc hk⟩
theorem St.rdF {w0 w : World} {f0 : FP} {L : List HP} (H : St w0 f0 L w) (i k : Nat) {A : Option Addr} {n c : Nat} {hs : List (Hd Int)} (hi : L[i]? = some (row A n c 50 6 (hs.flatMap bcells))) (hk : L[k]? = some (star (hs.map erow))) (hn : hs.length = n) : RdF (okOf w fun _ => False) w A n c (hs.map (·.2)) := by
  refine ⟨by simpa using hn, hs.flatMap bcells, H.rdR i hi, bc_one hs, fun j l hj => ?_⟩
  rw [List.getElem?_map] at hj
  obtain ⟨x, hx, rfl⟩ := Option.map_eq_some_iff.1 hj
  refine ⟨x.1.1, x.1.2, by rw [flat_get (bc_len hs) hx (by omega)]; rfl, ?_⟩
  exact H.rdStar k hk j (e := 52) (by rw [List.getElem?_map, hx]; rfl)

theorem bd50 : Try.prog.built 50 [] = some (bcells ((none, 0), [])).toArray := by kernel_rfl
theorem bd30 : Try.prog.built 30 [] = some #[.string ⟨#[]⟩, .slice none 0 0] := by kernel_rfl
theorem bd52 (to : Int) : Try.prog.built 52 [(0, .int .i64 to)] = some (ecells to).toArray := by kernel_rfl

theorem of_any {A : Option Addr} {n c : Nat} {ways : List (List Int)} (w0 : World) (hR : Rd2 iv (okOf w0 fun _ => False) w0 A n c ways) (hn1 : n ≤ 1000) (hn2 : ∀ l ∈ ways, l.length ≤ 1000) :
    CallsV Try.prog 11 #[.slice A n c] w0 fun v w' => ∃ (A' : Option Addr) (c' : Nat) (hs : List (Hd Int)), v = fval A' n c' ∧ hs.map (·.2) = ways ∧ St w0 (fun _ => False) [row A' n c' 50 6 (hs.flatMap bcells), star (hs.map erow)] w' := by
  obtain ⟨hn, hd, hR1, hR2⟩ := hR
  refine calls_ofG (args := [.slice A n c]) Try.func11 rfl rfl ?_
  have H := St.begin w0
  repeat refine wC_seq ?_
  refine wC_region ?_
  refine o_alloc TI_30.zero H ?_; intro b2 w H
  refine o_nil ?_
  repeat refine wC_seq ?_
  refine wC_region ?_
  refine o_build (pv := []) (cells := [.string ⟨#[]⟩, .slice none 0 0]) rfl bd30 ?_
  refine o_alloc TI_30.zero H ?_; intro b3 w H
  refine o_stB (v := fval none 0 0) TI_30.size H 1 rfl rfl rfl (Nat.le_refl 2) (by simp [fval, Value.cells, Value.oneCell']) ?_; intro w H
  refine o_nil ?_
  repeat refine wC_seq ?_
  refine wC_region ?_
  refine o_move ?_
  refine o_len U_22 rfl ?_
  refine o_move ?_
  refine o_nil ?_
  have H := (H.addNil 50 6).star0
  repeat refine wC_seq ?_
  refine wC_block ?_
  refine wC_loop (σ := Nat × Option Addr × Nat × List (Hd Int)) (fun s => [(2, .pointer (some ⟨b2, 0, none⟩)), (3, .pointer (some ⟨b3, 0, none⟩)), (10, .slice A n c), (11, .int .i64 (n : Nat)), (12, .int .i64 (s.1 : Nat))])
    (fun s w' => s.1 ≤ n ∧ s.2.2.2.map (·.2) = ways.take s.1 ∧ St w0 (fun _ => False) [blk b2 30 [.string ⟨#[]⟩, .slice none 0 0], blk b3 30 [.string ⟨#[]⟩, .slice s.2.1 s.1 s.2.2.1], row s.2.1 s.1 s.2.2.1 50 6 (s.2.2.2.flatMap bcells), star (s.2.2.2.map erow)] w') (fun s => n - s.1)
    (0, none, 0, []) ⟨rfl, rfl, rfl, rfl, rfl, trivial⟩ ⟨Nat.zero_le _, rfl, H⟩ ?_
  rintro f ⟨k, B, cB, hs⟩ w1 ⟨hk, hhs, H⟩
  simp only at hk hhs H ⊢
  repeat refine wC_seq ?_
  refine wC_region ?_
  by_cases hlt : k < n
  · refine o_lss true rfl rfl (by simp; omega) ?_
    refine o_nil ?_
    repeat refine wC_seq ?_
    refine wC_if true rfl ?_
    refine wC_skip ?_
    obtain ⟨l, hl⟩ : ∃ l, ways[k]? = some l := ⟨_, List.getElem?_eq_getElem (by omega)⟩
    have hlm := hn2 l (List.mem_of_getElem? hl)
    obtain ⟨A', c', hh, hRl⟩ := hR2 k l hl
    repeat refine wC_seq ?_
    refine wC_block ?_
    repeat refine wC_seq ?_
    refine wC_region ?_
    refine o_idxS U_22 TI_35 hR1 rfl rfl (by omega) (by omega) ?_
    rintro a rfl hC
    refine o_ldS1 T1_35 H hC (k * 1) rfl (by rw [Nat.mul_one]; exact hh) ?_
    refine o_assign ?_
    refine o_nil ?_
    repeat refine wC_seq ?_
    refine wC_region ?_
    refine o_build (pv := []) (cells := bcells ((none, 0), [])) rfl bd50 ?_
    refine o_alloc TI_50.zero H ?_; intro b6 w H
    refine o_stB (v := .agg (bcells ((none, 0), [])).toArray) TI_50.size H 4 rfl rfl rfl (Nat.le_refl 6) (bcv_one _) ?_; intro w H
    refine o_nil ?_
    repeat refine wC_seq ?_
    refine wC_region ?_
    refine o_move ?_
    refine o_len U_35 rfl ?_
    refine o_move ?_
    refine o_nil ?_
    have H := H.addNil 52 2
    repeat refine wC_seq ?_
    refine wC_block ?_
    refine wC_loop (σ := Nat × Option Addr × Nat) (fun s => [(2, .pointer (some ⟨b2, 0, none⟩)), (3, .pointer (some ⟨b3, 0, none⟩)), (10, .slice (some a) n c), (11, .int .i64 (n : Nat)), (12, .int .i64 (k : Nat)), (6, .pointer (some ⟨b6, 0, none⟩)), (17, .slice A' l.length c'), (18, .int .i64 l.length), (19, .int .i64 (s.1 : Nat))])
      (fun s w' => s.1 ≤ l.length ∧ St w0 (fun _ => False) [blk b2 30 [.string ⟨#[]⟩, .slice none 0 0], blk b3 30 [.string ⟨#[]⟩, .slice B k cB], row B k cB 50 6 (hs.flatMap bcells), star (hs.map erow), blk b6 50 (bcn s.2.1 s.1 s.2.2), row s.2.1 s.1 s.2.2 52 2 ((l.take s.1).flatMap ecells)] w') (fun s => l.length - s.1)
      (0, none, 0) ⟨rfl, rfl, rfl, rfl, rfl, rfl, rfl, rfl, rfl, trivial⟩ ⟨Nat.zero_le _, H⟩ ?_
    rintro f ⟨j, C, cC⟩ w1 ⟨hj, H⟩
    simp only at hj H ⊢
    repeat refine wC_seq ?_
    refine wC_region ?_
    by_cases hltj : j < l.length
    · refine o_lss true rfl rfl (by simp; omega) ?_
      refine o_nil ?_
      repeat refine wC_seq ?_
      refine wC_if true rfl ?_
      refine wC_skip ?_
      obtain ⟨to, hto⟩ : ∃ x, l[j]? = some x := ⟨_, List.getElem?_eq_getElem hltj⟩
      repeat refine wC_seq ?_
      refine wC_block ?_
      repeat refine wC_seq ?_
      refine wC_region ?_
      refine o_idxS U_35 TI_3 hRl rfl rfl (by omega) (by omega) ?_
      rintro a' rfl hC'
      refine o_ldS1 T1_3 H hC' (j * 1) rfl (by rw [Nat.mul_one, List.getElem?_map, hto]; rfl) ?_
      refine o_assign ?_
      refine o_nil ?_
      repeat refine wC_seq ?_
      refine wC_region ?_
      refine o_fld (fl := fd_50_2) (m := 3) U_50 rfl (TA_48.sz) rfl ?_
      refine o_fld (fl := fd_48_2) (m := 0) U_48 rfl (T1_45.sz) rfl ?_
      refine o_ldB1 T1_45 H 4 rfl (o := 4) rfl rfl ?_
      refine o_move ?_
      refine o_build (pv := [(0, .int .i64 to)]) (cells := ecells to) rfl (bd52 to) ?_
      refine o_lit (pv := [(0, .agg (ecells to).toArray)]) (cells := ecells to) U_45 TI_52 (by decide) rfl (by simp [Value.cells, ecells]) rfl H ?_; intro b28 w H
      refine o_appR U_45 TI_52 H 5 6 rfl rfl rfl rfl (fun u hu => by have := ec_one [to] u (by simpa using hu); exact this) (by omega) ?_; intro C' cC' w H
      refine o_fld (fl := fd_50_2) (m := 3) U_50 rfl (TA_48.sz) rfl ?_
      refine o_fld (fl := fd_48_2) (m := 0) U_48 rfl (T1_45.sz) rfl ?_
      refine o_stB (v := .slice C' (j + 1) cC') TI_45.size H 4 rfl (o := 4) rfl rfl (by show 4 + 1 ≤ 6; omega) (by simp [Value.cells, Value.oneCell']) ?_; intro w H
      refine o_nil ?_
      repeat refine wC_seq ?_
      refine wC_region ?_
      refine o_add64 rfl rfl (by omega) ?_
      refine o_move ?_
      refine o_nil ?_
      refine ⟨(j + 1, C', cC'), ⟨rfl, rfl, rfl, rfl, rfl, rfl, rfl, rfl, rfl, trivial⟩, ⟨hltj, ?_⟩, by show l.length - (j + 1) < l.length - j; omega⟩
      have e : (l.take (j + 1)).flatMap ecells = (l.take j).flatMap ecells ++ ecells to := by
        obtain ⟨_, he⟩ := List.getElem?_eq_some_iff.1 hto
        rw [List.take_succ_eq_append_getElem hltj, he, List.flatMap_append]; simp
      show St w0 (fun _ => False) [_, _, _, _, _, row C' (j + 1) cC' 52 2 ((l.take (j + 1)).flatMap ecells)] w
      rw [e]
      exact H.drop 6
    · refine o_lss false rfl rfl (by simp; omega) ?_
      refine o_nil ?_
      repeat refine wC_seq ?_
      refine wC_if false rfl ?_
      refine wC_exit ?_
      obtain rfl : j = l.length := by omega
      rw [List.take_length] at H
      repeat refine wC_seq ?_
      refine wC_region ?_
      refine o_fld (fl := fd_30_1) (m := 0) U_30 rfl (T1_28.sz) rfl ?_
      refine o_ldB1 T1_28 H 1 rfl (o := 1) rfl rfl ?_
      refine o_ldBA TA_50 H 4 rfl (o := 0) rfl (Nat.le_refl _) ?_
      refine o_lit (pv := [(0, .agg (bcells ((C, cC), l)).toArray)]) (cells := bcells ((C, cC), l)) U_28 TI_50 (by decide) rfl (by simp [Value.cells, bcells, bcn]) rfl H ?_; intro b36 w H
      refine o_appR U_28 TI_50 H 2 6 rfl rfl rfl rfl (bcv_one _) (by omega) ?_; intro B' cB' w H
      refine o_fld (fl := fd_30_1) (m := 0) U_30 rfl (T1_28.sz) rfl ?_
      refine o_stB (v := .slice B' (k + 1) cB') TI_28.size H 1 rfl (o := 1) rfl rfl (by show 1 + 1 ≤ 2; omega) (by simp [Value.cells, Value.oneCell']) ?_; intro w H
      refine o_nil ?_
      repeat refine wC_seq ?_
      refine wC_region ?_
      refine o_add64 rfl rfl (by omega) ?_
      refine o_move ?_
      refine o_nil ?_
      have H := ((H.drop 6).drop 4).more (L1 := [_, _, _, _]) 3 rfl
      refine ⟨(k + 1, B', cB', hs ++ [((C, cC), l)]), ⟨rfl, rfl, rfl, rfl, rfl, trivial⟩, ⟨hlt, ?_, ?_⟩, by show n - (k + 1) < n - k; omega⟩
      · obtain ⟨hk', he⟩ := List.getElem?_eq_some_iff.1 hl
        rw [List.take_succ_eq_append_getElem hk', he, List.map_append, hhs]; rfl
      · show St w0 (fun _ => False) [_, _, row B' (k + 1) cB' 50 6 ((hs ++ [((C, cC), l)]).flatMap bcells), star ((hs ++ [((C, cC), l)]).map erow)] w
        rw [List.flatMap_append, List.map_append]
        have e : ([((C, cC), l)] : List (Hd Int)).flatMap bcells = bcells ((C, cC), l) := by simp
        rw [e]
        exact H
  · refine o_lss false rfl rfl (by simp; omega) ?_
    refine o_nil ?_
    repeat refine wC_seq ?_
    refine wC_if false rfl ?_
    refine wC_exit ?_
    obtain rfl : k = n := by omega
    repeat refine wC_seq ?_
    refine wC_region ?_
    refine o_ldBA TA_30 H 1 rfl (o := 0) rfl (Nat.le_refl _) ?_
    refine o_stB (v := fval B k cB) TI_30.size H 0 rfl rfl rfl (Nat.le_refl 2) (by simp [fval, Value.cells, Value.oneCell']) ?_; intro w H
    refine o_nil ?_
    refine wC_ret ?_
    obtain ⟨f1, hA, _, _⟩ := H.focus 0 rfl
    refine ⟨fval B k cB, res_cell rfl rfl rfl (ldA TA_30 (cs := [.string ⟨#[]⟩, .slice B k cB]) rfl fun j v hj => ?_), B, cB, hs, rfl, ?_, (H.drop 0).drop 0⟩
    · rw [add_spot rfl]
      exact (blk.cell hA _).trans (by rw [Nat.zero_add]; exact hj)
    · rw [hhs, List.take_of_length_le (by omega)]
end Go.Proofs.Ytgcmcgbkdeealaa
