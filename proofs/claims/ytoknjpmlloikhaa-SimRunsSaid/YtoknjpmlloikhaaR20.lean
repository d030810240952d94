/- Layer 8: the law's own call, walked. -/
import Derived.Test.YtoknjpmlloikhaaR19
import Derived.Test.YtoknjpmlloikhaaR14
namespace Go.Proofs.Ytoknjpmlloikhaa
set_option linter.unusedVariables false
set_option linter.unusedSimpArgs false
open Go Go.RowKit

theorem ow_mem {b : Nat} {p : SsaProg} {Am : Option Addr} {cm : Nat} {xs ys : List (Sl Int)} {l : Sl ApiLeak} {lf tr : Int} {sp : Bool} (h : xs.length = ys.length) : var 41 b (⟨p, ⟨Am, cm, xs⟩, l, lf, tr, sp⟩ : Palingslaw08Own) = var 41 b (⟨p, ⟨Am, cm, ys⟩, l, lf, tr, sp⟩ : Palingslaw08Own) := var_congr (by
  show [_, _, _, Value.slice Am xs.length cm, _, _, _, _] = [_, _, _, Value.slice Am ys.length cm, _, _, _, _]
  rw [h])
theorem nth_map {xs : List Int} {g : Int → Int} {k : Nat} (h : k < xs.length) : nth (xs.map g) k = g (nth xs k) := by
  rw [nth_get (by simpa using h), List.getElem_map, nth_get h]
set_option maxHeartbeats 16000000 in
theorem ownCall_spec (p : SsaProg) (hp : FewPr p) (hG : GoodP p) (F : Nat) (hF : F ≤ 1023) (bo : Nat) (Am : Option Addr) (cm : Nat) : ∀ (D : Nat) (fn : Nat) (as' : Sl Int) (base : List Frm) (M0 : Mch) (dst : Int) (ss : List (Sl Int)) (Al : Option Addr) (cl : Nat),
    base.length + D = 61 → fn < p.fFuncs.xs.length → (nth (nth p.fFuncs.xs fn).fBlocks.xs 0).fParams.xs.length ≤ as'.xs.length → RunS p F M0 base fn dst M0 ⟨fn, 0, 0, putAll (parsF p fn) as'.xs fun _ => none, dst⟩ → base.length + 1 ≤ M0.deep → ss.map (·.xs) = M0.mem →
    Spec Try.prog 14 [.pointer (some ⟨bo, 0, none⟩), .int .i64 (fn : Nat), .slice as'.A as'.xs.length as'.c, .int .i64 (base.length : Nat)] [var 41 bo (⟨p, ⟨Am, cm, ss⟩, ⟨Al, cl, M0.leaks⟩, ((F : Int) - (M0.steps : Int)), 0, false⟩ : Palingslaw08Own), own 86 Al M0.leaks.length cl M0.leaks, own 45 Am ss.length cm ss, rws 2 ss] (fun ok w => RdD ok w p ∧ RdD ok w as')
      fun v L' => ∃ z goes ss2 Al2 cl2 lk2 left2 trap2 sp2, v = .tuple #[.int .i64 z, .bool goes] ∧ L' = [var 41 bo (⟨p, ⟨Am, cm, ss2⟩, ⟨Al2, cl2, lk2⟩, left2, trap2, sp2⟩ : Palingslaw08Own), own 86 Al2 lk2.length cl2 lk2, own 45 Am ss2.length cm ss2, rws 2 ss2] ∧ OwnR p F M0 base dst z goes (ss2.map (·.xs)) lk2 left2 trap2 sp2 := by
  intro D
  induction D with
  | zero =>
    intro fn as' base M0 dst ss Al cl hD hfn has hrun hdp hss
    refine spec_of Try.func14 rfl rfl fun w0 f0 hR => ?_
    (repeat' (first | refine s_move ?_ | refine s_assign ?_ | refine s_nil ?_ | (refine k_C ?_; first | refine s_seq ?_ | refine s_region ?_ | (refine s_ifd rfl ?_ ?_ <;> intro hc <;> try (exfalso; omega))) | (refine k_E ?_; refine e_seq ?_) | (refine k_bin ?_; refine s_gtr rfl rfl ?_) | (refine k_fld ?_; refine s_fldB rfl ?_) | refine s_nilck rfl ?_))
    refine s_stB (⟨p, ⟨Am, cm, ss⟩, ⟨Al, cl, M0.leaks⟩, (F : Int) - (M0.steps : Int), 0, true⟩ : Palingslaw08Own) rfl rfl (by rfl) (by decide) ?_
    (repeat' (first | refine s_assign ?_ | refine s_nil ?_ | (refine k_C ?_; first | refine s_seq ?_ | refine s_region ?_ | refine s_ret ?_) | (refine k_E ?_; first | refine e_seq ?_ | refine e_seq_ret ?_)))
    exact e_done2 rfl rfl rfl _ PSub.refl ⟨0, false, ss, Al, cl, M0.leaks, _, _, _, rfl, rfl, .inr (.inr ⟨rfl, rfl, M0, hrun.go, hrun.fin, .inr (by omega)⟩)⟩
  | succ D ih =>
    intro fn as' base M0 dst ss Al cl hD hfn has hrun hdp hss
    refine spec_of Try.func14 rfl rfl fun w0 f0 hR => ?_
    obtain ⟨hRp, hRa⟩ := hR
    have hW := wfP_of hRp
    have hnb := hG.n0 fn hfn
    have hpl : (nth (nth p.fFuncs.xs fn).fBlocks.xs 0).fParams.xs.length ≤ 20 := ((hp.k fn hfn).k 0 hnb).p
    (repeat' (first | refine s_move ?_ | refine s_assign ?_ | refine s_nil ?_ | (refine k_C ?_; first | refine s_seq ?_ | refine s_region ?_ | refine s_skip ?_ | refine s_block ?_ | (refine s_ifd rfl ?_ ?_ <;> intro hc <;> try (exfalso; omega))) | (refine k_E ?_; refine e_seq ?_) | (refine k_load ?_; first | refine s_ldB rfl rfl ?_ | refine s_ldS rfl rfl om rfl ?_ | refine s_ldSA rfl rfl om rfl ?_) | (refine k_bin ?_; refine s_gtr rfl rfl ?_) | (refine k_fld ?_; first | refine s_fld rfl ?_ | refine s_fldB rfl ?_) | (refine k_idx ?_; refine s_idxS rfl rfl om ?_) | (refine k_store ?_; refine s_stW _ rfl rfl ?_) | (refine k_call ?_; refine s_len rfl ?_) | (refine s_alloc ?_; intro b) | refine s_nilck rfl ?_ | (refine s_mkmapI ?_; intro b)))
    rename_i b10
    obtain ⟨vb, rfl⟩ : ∃ q, q = b := ⟨_, rfl⟩
    refine s_loop (σ := Nat) (fun k => [(0, .pointer (some ⟨bo, 0, none⟩)), (2, .slice as'.A as'.xs.length as'.c), (3, .int .i64 (base.length : Nat)), (10, .pointer (some ⟨b10, 0, none⟩)), (11, .map (some vb)), (53, .slice (nth (nth p.fFuncs.xs fn).fBlocks.xs 0).fParams.A (nth (nth p.fFuncs.xs fn).fBlocks.xs 0).fParams.xs.length (nth (nth p.fFuncs.xs fn).fBlocks.xs 0).fParams.c), (54, .int .i64 (nth (nth p.fFuncs.xs fn).fBlocks.xs 0).fParams.xs.length), (55, .int .i64 (k : Nat))])
      (fun k => [mp EW 3 vb k (putN (nth (nth p.fFuncs.xs fn).fBlocks.xs 0).fParams.xs as'.xs (fun _ => none) k), var 63 b10 (nth p.fFuncs.xs fn), var 41 bo (⟨p, ⟨Am, cm, ss⟩, ⟨Al, cl, M0.leaks⟩, ((F : Int) - (M0.steps : Int)), 0, false⟩ : Palingslaw08Own), own 86 Al M0.leaks.length cl M0.leaks, own 45 Am ss.length cm ss, rws 2 ss]) (fun k => k ≤ (nth (nth p.fFuncs.xs fn).fBlocks.xs 0).fParams.xs.length) (fun k => (nth (nth p.fFuncs.xs fn).fBlocks.xs 0).fParams.xs.length - k) 0 (by repeat (first | exact trivial | refine ⟨rfl, ?_⟩)) (Nat.zero_le _) PSub.refl ?_
    rintro g k hk
    (repeat' (first | refine s_nil ?_ | (refine k_C ?_; first | refine s_seq ?_ | refine s_region ?_) | (refine k_E ?_; refine e_seq ?_) | (refine k_bin ?_; refine s_lss rfl rfl ?_)))
    (first | (refine k_C ?_; (refine s_ifd rfl ?_ ?_ <;> intro hc <;> try (exfalso; omega))))
    · have hkl : k < (nth (nth p.fFuncs.xs fn).fBlocks.xs 0).fParams.xs.length := by omega
      have hka : k < as'.xs.length := by omega
      have hpw : wfi (nth (nth (nth p.fFuncs.xs fn).fBlocks.xs 0).fParams.xs k) := RdD.int (ok := okOf w0 f0) (w := w0) (by infer_instance)
      have haw : wfi (nth as'.xs k) := RdD.int (ok := okOf w0 f0) (w := w0) (by infer_instance)
      (repeat' (first | refine s_move ?_ | refine s_assign ?_ | refine s_nil ?_ | (refine k_C ?_; first | refine s_seq ?_ | refine s_region ?_ | refine s_skip ?_ | refine s_block ?_) | (refine k_E ?_; refine e_seq ?_) | (refine k_load ?_; refine s_ldS rfl rfl om rfl ?_) | (refine k_idx ?_; refine s_idxS rfl rfl om ?_)))
      refine s_put (yv := nth as'.xs k) rfl rfl rfl hpw (wfi_iff.1 haw) (by omega) ?_
      (repeat' (first | refine s_move ?_ | refine s_nil ?_ | (refine k_C ?_; refine s_region ?_) | (refine k_E ?_; first | refine e_seq ?_ | refine e_bk ?_) | (refine k_bin ?_; refine s_add1 rfl rfl om ?_)))
      exact e_lp (k + 1) (by repeat (first | exact trivial | refine ⟨rfl, ?_⟩)) (by show k + 1 ≤ _; omega) (by show _ - _ < _ - _; omega) PSub.refl
    have hkE : k = (nth (nth p.fFuncs.xs fn).fBlocks.xs 0).fParams.xs.length := by omega
    subst hkE
    (repeat' (first | refine s_assign ?_ | refine s_nil ?_ | (refine k_C ?_; first | refine s_seq ?_ | refine s_region ?_ | refine s_block ?_ | refine s_exit ?_) | (refine k_E ?_; first | refine e_seq ?_ | refine e_seq_exit ?_ | refine e_bk_exit ?_ | refine e_lp_exit ?_)))
    have hkey0 : ∀ u, putN (nth (nth p.fFuncs.xs fn).fBlocks.xs 0).fParams.xs as'.xs (fun _ => none) (nth (nth p.fFuncs.xs fn).fBlocks.xs 0).fParams.xs.length u ≠ none → u ∈ keysOf p fn := fun u hu => par_made (f := (nth p.fFuncs.xs fn)) hnb u (putN_keys (Nat.le_refl _) u hu)
    have hKU := keys_le hp fn
    refine s_loop (σ := Mch × Frm × Option Addr × Nat × List (Sl Int)) (fun q => [(0, .pointer (some ⟨bo, 0, none⟩)), (3, .int .i64 (base.length : Nat)), (10, .pointer (some ⟨b10, 0, none⟩)), (11, .map (some vb)), (14, .int .i64 (q.2.1.block : Nat))])
      (fun q => [mp EW 3 vb (keysOf p fn).length q.2.1.vals, var 63 b10 (nth p.fFuncs.xs fn), var 41 bo (⟨p, ⟨Am, cm, q.2.2.2.2⟩, ⟨q.2.2.1, q.2.2.2.1, q.1.leaks⟩, ((F : Int) - (q.1.steps : Int)), 0, false⟩ : Palingslaw08Own), own 86 q.2.2.1 q.1.leaks.length q.2.2.2.1 q.1.leaks, own 45 Am q.2.2.2.2.length cm q.2.2.2.2, rws 2 q.2.2.2.2])
      (fun q => RunS p F M0 base fn dst q.1 q.2.1 ∧ q.2.1.at_ = 0 ∧ q.2.2.2.2.map (·.xs) = q.1.mem) (fun q => F - q.1.steps) (M0, ⟨fn, 0, 0, putAll (parsF p fn) as'.xs fun _ => none, dst⟩, Al, cl, ss) (by repeat (first | exact trivial | refine ⟨rfl, ?_⟩)) ⟨hrun, rfl, hss⟩ (PSub.mpCut (keysOf p fn) U_3 hkey0) ?_
    rintro g ⟨M1, f1, Al1, cl1, ss1⟩ ⟨hr1, hat1, hs1⟩
    dsimp only at hr1 hat1 hs1 ⊢
    have hblk : f1.block < (nth p.fFuncs.xs fn).fBlocks.xs.length := by have := hr1.frm.blk; rw [hr1.fn] at this; exact this
    obtain ⟨blk, hblkE⟩ : ∃ x, x = f1.block := ⟨_, rfl⟩
    rw [← hblkE] at hblk
    rw [← hblkE]
    have hfb := (hp.k fn hfn).k blk hblk
    have hfi := hfb.i
    have hfw := hfb.w
    (repeat' (first | refine s_move ?_ | refine s_nil ?_ | (refine k_C ?_; first | refine s_seq ?_ | refine s_region ?_ | refine s_block ?_) | (refine k_E ?_; refine e_seq ?_) | (refine k_load ?_; first | refine s_ldB rfl rfl ?_ | refine s_ldSF rfl rfl om rfl ?_) | (refine k_fld ?_; first | refine s_fld rfl ?_ | refine s_fldB rfl ?_) | (refine k_idx ?_; refine s_idxS rfl rfl om ?_) | (refine k_call ?_; refine s_len rfl ?_)))
    refine s_loop (σ := Mch × Frm × Option Addr × Nat × List (Sl Int)) (fun q => [(0, .pointer (some ⟨bo, 0, none⟩)), (3, .int .i64 (base.length : Nat)), (10, .pointer (some ⟨b10, 0, none⟩)), (11, .map (some vb)), (14, .int .i64 (blk : Nat)), (72, .slice (nth (nth p.fFuncs.xs fn).fBlocks.xs blk).fIns.A (nth (nth p.fFuncs.xs fn).fBlocks.xs blk).fIns.xs.length (nth (nth p.fFuncs.xs fn).fBlocks.xs blk).fIns.c), (73, .int .i64 (nth (nth p.fFuncs.xs fn).fBlocks.xs blk).fIns.xs.length), (74, .int .i64 (q.2.1.at_ : Nat))])
      (fun q => [mp EW 3 vb (keysOf p fn).length q.2.1.vals, var 63 b10 (nth p.fFuncs.xs fn), var 41 bo (⟨p, ⟨Am, cm, q.2.2.2.2⟩, ⟨q.2.2.1, q.2.2.2.1, q.1.leaks⟩, ((F : Int) - (q.1.steps : Int)), 0, false⟩ : Palingslaw08Own), own 86 q.2.2.1 q.1.leaks.length q.2.2.2.1 q.1.leaks, own 45 Am q.2.2.2.2.length cm q.2.2.2.2, rws 2 q.2.2.2.2])
      (fun q => RunS p F M0 base fn dst q.1 q.2.1 ∧ q.2.1.block = blk ∧ q.2.1.at_ ≤ (nth (nth p.fFuncs.xs fn).fBlocks.xs blk).fIns.xs.length ∧ q.2.2.2.2.map (·.xs) = q.1.mem ∧ M1.steps ≤ q.1.steps) (fun q => (nth (nth p.fFuncs.xs fn).fBlocks.xs blk).fIns.xs.length - q.2.1.at_) (M1, f1, Al1, cl1, ss1) (by dsimp only; rw [hat1]; exact (by repeat (first | exact trivial | refine ⟨rfl, ?_⟩))) ⟨hr1, hblkE.symm, by rw [hat1]; exact Nat.zero_le _, hs1, Nat.le_refl _⟩ PSub.refl ?_
    rintro g2 ⟨M, f, Al2, cl2, ss2⟩ ⟨hr, hfb2, hat, hs2, hm1⟩
    dsimp only at hr hfb2 hat hs2 hm1 ⊢
    have hst := hr.st
    have hleak := hr.ok.leaks
    (repeat' (first | refine s_nil ?_ | (refine k_C ?_; first | refine s_seq ?_ | refine s_region ?_) | (refine k_E ?_; refine e_seq ?_) | (refine k_bin ?_; refine s_lss rfl rfl ?_)))
    (first | (refine k_C ?_; (refine s_ifd rfl ?_ ?_ <;> intro hc <;> try (exfalso; omega))))
    · have hatl : f.at_ < (nth (nth p.fFuncs.xs fn).fBlocks.xs blk).fIns.xs.length := by omega
      have hins : insF p f = (nth (nth (nth p.fFuncs.xs fn).fBlocks.xs blk).fIns.xs f.at_) := by unfold insF; rw [hr.fn, hfb2]
      have hatN : f.at_ < insN p f := by unfold insN; rw [hr.fn, hfb2]; exact hatl
      have hi := hG.ins fn hfn blk hblk f.at_ hatl
      have hia := hfb.ia f.at_ hatl
      have hdk := dst_made (f := (nth p.fFuncs.xs fn)) hblk hatl
      have hdw : wfi (nth (nth (nth p.fFuncs.xs fn).fBlocks.xs blk).fIns.xs f.at_).fDst := RdD.int (ok := okOf w0 f0) (w := w0) (by infer_instance)
      have hnw : wfi (nth (nth (nth p.fFuncs.xs fn).fBlocks.xs blk).fIns.xs f.at_).fNum := RdD.int (ok := okOf w0 f0) (w := w0) (by infer_instance)
      have hop := hi.op
      have hfr := hr.frm
      have hkey : ∀ u, f.vals u ≠ none → u ∈ keysOf p fn := fun u hu => by have := hfr.keys u hu; rwa [hr.fn] at this
      have hkd : ∀ y, (nth (nth (nth p.fFuncs.xs fn).fBlocks.xs blk).fIns.xs f.at_).fDst ≠ 0 → ∀ u, upd f.vals (nth (nth (nth p.fFuncs.xs fn).fBlocks.xs blk).fIns.xs f.at_).fDst (some y) u ≠ none → u ∈ keysOf p fn := fun y hd u hu => by
        unfold upd at hu
        split at hu
        · rename_i e; rw [e]; exact hdk hd
        · exact hkey u hu
      have hwf : ∀ u, wfi (getV f.vals u) := hfr.wf
      have hle : (F : Int) - (M.steps : Int) - 1 = (F : Int) - ((M.steps + 1 : Nat) : Int) := by omega
      have hn1 := hi.n
      have hn2 : (nth (nth (nth p.fFuncs.xs fn).fBlocks.xs blk).fIns.xs f.at_).fOp = 2 → (nth (nth (nth p.fFuncs.xs fn).fBlocks.xs blk).fIns.xs f.at_).fArgs.xs.length = 2 := fun h => hn1.2.1 (.inl h)
      have hn4 : (nth (nth (nth p.fFuncs.xs fn).fBlocks.xs blk).fIns.xs f.at_).fOp = 4 → (nth (nth (nth p.fFuncs.xs fn).fBlocks.xs blk).fIns.xs f.at_).fArgs.xs.length = 1 := fun h => hn1.2.2 (.inl h)
      have hn5 : (nth (nth (nth p.fFuncs.xs fn).fBlocks.xs blk).fIns.xs f.at_).fOp = 5 → (nth (nth (nth p.fFuncs.xs fn).fBlocks.xs blk).fIns.xs f.at_).fArgs.xs.length = 1 := fun h => hn1.2.2 (.inr h)
      have hn6 : (nth (nth (nth p.fFuncs.xs fn).fBlocks.xs blk).fIns.xs f.at_).fOp = 6 → (nth (nth (nth p.fFuncs.xs fn).fBlocks.xs blk).fIns.xs f.at_).fArgs.xs.length = 2 := fun h => hn1.2.1 (.inr h)
      have hda : ¬ ((nth (nth (nth p.fFuncs.xs fn).fBlocks.xs blk).fIns.xs f.at_).fOp = 4 ∨ (nth (nth (nth p.fFuncs.xs fn).fBlocks.xs blk).fIns.xs f.at_).fOp = 6) → (nth (nth (nth p.fFuncs.xs fn).fBlocks.xs blk).fIns.xs f.at_).fDst ≠ 0 := fun h => by have := hi.dst.1 (by omega); omega
      have hsl : ss2.length = M.mem.length := by rw [← hs2, List.length_map]
      have harr : (nth (nth (nth p.fFuncs.xs fn).fBlocks.xs blk).fIns.xs f.at_).fOp = 3 ∨ (nth (nth (nth p.fFuncs.xs fn).fBlocks.xs blk).fIns.xs f.at_).fOp = 4 ∨ (nth (nth (nth p.fFuncs.xs fn).fBlocks.xs blk).fIns.xs f.at_).fOp = 5 ∨ (nth (nth (nth p.fFuncs.xs fn).fBlocks.xs blk).fIns.xs f.at_).fOp = 6 → 0 ≤ (nth (nth (nth p.fFuncs.xs fn).fBlocks.xs blk).fIns.xs f.at_).fArr ∧ (nth (nth (nth p.fFuncs.xs fn).fBlocks.xs blk).fIns.xs f.at_).fArr.toNat < ss2.length := fun h => by
        obtain ⟨h1, h2⟩ := hi.arr h
        have := hr.ok.memN
        omega
      have hrow : ∀ {a : Nat}, a < ss2.length → 0 < (nth ss2 a).xs.length ∧ (nth ss2 a).xs.length ≤ 4096 ∧ ∀ k, k < (nth ss2 a).xs.length → wfi (nth (nth ss2 a).xs k) := fun {a} ha => by
        have h1 := hr.ok.mem a (by omega)
        rw [rows_nth hs2 ha]
        exact ⟨h1.1, h1.2.1, fun k hk => h1.2.2 _ (nth_mem hk)⟩
      (repeat' (first | refine s_move ?_ | refine s_nil ?_ | (refine k_C ?_; first | refine s_seq ?_ | refine s_region ?_ | refine s_skip ?_ | refine s_block ?_) | (refine k_E ?_; refine e_seq ?_) | (refine k_load ?_; first | refine s_ldB rfl rfl ?_ | refine s_ldSA rfl rfl om rfl ?_) | (refine k_bin ?_; refine s_sub64 rfl rfl om ?_) | (refine k_fld ?_; refine s_fldB rfl ?_) | (refine k_idx ?_; refine s_idxS rfl rfl om ?_) | (refine k_store ?_; refine s_stW _ rfl rfl ?_) | (refine s_alloc ?_; intro b) | refine s_nilck rfl ?_))
      obtain ⟨b16, rfl⟩ : ∃ q, q = b := ⟨_, rfl⟩
      refine s_stB (⟨p, ⟨Am, cm, ss2⟩, ⟨Al2, cl2, M.leaks⟩, (F : Int) - ((M.steps + 1 : Nat) : Int), 0, false⟩ : Palingslaw08Own) rfl rfl (by rw [← hle]; rfl) (by decide) ?_
      (repeat' (first | refine s_move ?_ | refine s_nil ?_ | (refine k_C ?_; first | refine s_seq ?_ | refine s_region ?_) | (refine k_E ?_; refine e_seq ?_) | (refine k_load ?_; refine s_ldB rfl rfl ?_) | (refine k_bin ?_; refine s_lss rfl rfl ?_) | (refine k_fld ?_; refine s_fldB rfl ?_) | refine s_nilck rfl ?_))
      (first | (refine k_C ?_; (refine s_ifd rfl ?_ ?_ <;> intro hc <;> try (exfalso; omega))))
      · have hsp : F ≤ M.steps := by have hc2 : (F : Int) - ((M.steps + 1 : Nat) : Int) < 0 := hc
                                     omega
        (repeat' (first | refine s_move ?_ | (refine k_C ?_; first | refine s_seq ?_ | refine s_region ?_) | (refine k_fld ?_; refine s_fldB rfl ?_) | refine s_nilck rfl ?_))
        refine s_stB (⟨p, ⟨Am, cm, ss2⟩, ⟨Al2, cl2, M.leaks⟩, (F : Int) - ((M.steps + 1 : Nat) : Int), 0, true⟩ : Palingslaw08Own) rfl rfl (by rfl) (by decide) ?_
        (repeat' (first | refine s_assign ?_ | refine s_nil ?_ | (refine k_C ?_; first | refine s_seq ?_ | refine s_region ?_ | refine s_ret ?_) | (refine k_E ?_; first | refine e_seq ?_ | refine e_seq_ret ?_ | refine e_bk_ret ?_ | refine e_lp_ret ?_)))
        exact e_done2 rfl rfl rfl _ (PSub.take [3, 3, 3, 3] rfl) ⟨0, false, ss2, Al2, cl2, M.leaks, _, _, _, rfl, rfl, hr.spent hsp⟩
      have hlt : M.steps < F := by have hc2 : ¬ (F : Int) - ((M.steps + 1 : Nat) : Int) < 0 := hc
                                   omega
      have hops : (nth (nth (nth p.fFuncs.xs fn).fBlocks.xs blk).fIns.xs f.at_).fOp = 1 ∨ (nth (nth (nth p.fFuncs.xs fn).fBlocks.xs blk).fIns.xs f.at_).fOp = 2 ∨ (nth (nth (nth p.fFuncs.xs fn).fBlocks.xs blk).fIns.xs f.at_).fOp = 3 ∨ (nth (nth (nth p.fFuncs.xs fn).fBlocks.xs blk).fIns.xs f.at_).fOp = 4 ∨ (nth (nth (nth p.fFuncs.xs fn).fBlocks.xs blk).fIns.xs f.at_).fOp = 5 ∨ (nth (nth (nth p.fFuncs.xs fn).fBlocks.xs blk).fIns.xs f.at_).fOp = 6 ∨ (nth (nth (nth p.fFuncs.xs fn).fBlocks.xs blk).fIns.xs f.at_).fOp = 7 := by omega
      rcases hops with ho | ho | ho | ho | ho | ho | ho
      ·
        --{
        (repeat' (first | refine s_move ?_ | refine s_nil ?_ | (refine k_C ?_; first | refine s_seq ?_ | refine s_region ?_ | refine s_skip ?_ | (refine s_ifd rfl ?_ ?_ <;> intro hc <;> try (exfalso; omega))) | (refine k_E ?_; refine e_seq ?_) | (refine k_load ?_; refine s_ldB rfl rfl ?_) | (refine k_bin ?_; refine s_eql rfl rfl ?_) | (refine k_fld ?_; refine s_fldB rfl ?_)))
        refine s_put (yv := (nth (nth (nth p.fFuncs.xs fn).fBlocks.xs blk).fIns.xs f.at_).fNum) rfl rfl rfl hdw (wfi_iff.1 hnw) (by omega) ?_
        (repeat' (first | refine s_move ?_ | refine s_nil ?_ | (refine k_C ?_; first | refine s_seq ?_ | refine s_region ?_ | refine s_skip ?_ | (refine s_ifd rfl ?_ ?_ <;> intro hc <;> try (exfalso; omega))) | (refine k_E ?_; first | refine e_seq ?_ | refine e_bk ?_) | (refine k_load ?_; refine s_ldB rfl rfl ?_) | (refine k_bin ?_; first | refine s_add1 rfl rfl om ?_ | refine s_eql rfl rfl ?_) | (refine k_fld ?_; refine s_fldB rfl ?_) | (refine k_guard ?_; first | refine s_on rfl rfl ?_ | (refine s_casesd rfl rfl ?_ ?_ <;> intro hc <;> try (exfalso; omega))) | refine s_pick rfl ?_))
        refine e_lp (upM M base f M.leaks M.mem (putF f.vals (nth (nth (nth p.fFuncs.xs fn).fBlocks.xs blk).fIns.xs f.at_).fDst (nth (nth (nth p.fFuncs.xs fn).fBlocks.xs blk).fIns.xs f.at_).fNum), nxF f (putF f.vals (nth (nth (nth p.fFuncs.xs fn).fBlocks.xs blk).fIns.xs f.at_).fDst (nth (nth (nth p.fFuncs.xs fn).fBlocks.xs blk).fIns.xs f.at_).fNum), Al2, cl2, ss2) (by repeat (first | exact trivial | refine ⟨rfl, ?_⟩)) ⟨hr.up hG hW hlt hatN (by rw [hins]; exact do_const ho), hfb2, hatl, hs2, by show M1.steps ≤ M.steps + 1; omega⟩ (by show (nth (nth p.fFuncs.xs fn).fBlocks.xs blk).fIns.xs.length - (f.at_ + 1) < (nth (nth p.fFuncs.xs fn).fBlocks.xs blk).fIns.xs.length - f.at_; omega) ((PSub.take [1, 1, 1, 1, 1, 1] rfl).trans (PSub.mpCut (keysOf p fn) U_3 (hkd _ (hda (by omega)))))
        --}
      ·
        --{
        have hl2 := hn2 ho
        obtain ⟨x, hx⟩ : ∃ q, q = getV f.vals (nth (nth (nth (nth p.fFuncs.xs fn).fBlocks.xs blk).fIns.xs f.at_).fArgs.xs 0) := ⟨_, rfl⟩
        obtain ⟨y, hy⟩ : ∃ q, q = getV f.vals (nth (nth (nth (nth p.fFuncs.xs fn).fBlocks.xs blk).fIns.xs f.at_).fArgs.xs 1) := ⟨_, rfl⟩
        have hx0 : nth ((nth (nth (nth p.fFuncs.xs fn).fBlocks.xs blk).fIns.xs f.at_).fArgs.xs.map (getV f.vals)) 0 = x := by rw [hx]; exact nth_map (by omega)
        have hy0 : nth ((nth (nth (nth p.fFuncs.xs fn).fBlocks.xs blk).fIns.xs f.at_).fArgs.xs.map (getV f.vals)) 1 = y := by rw [hy]; exact nth_map (by omega)
        have hxw : wfi x := by rw [hx]; exact hwf _
        have hyw : wfi y := by rw [hy]; exact hwf _
        have hb3 : (nth (nth (nth p.fFuncs.xs fn).fBlocks.xs blk).fIns.xs f.at_).fBin = 4 ∨ (nth (nth (nth p.fFuncs.xs fn).fBlocks.xs blk).fIns.xs f.at_).fBin = 5 ∨ (¬ (nth (nth (nth p.fFuncs.xs fn).fBlocks.xs blk).fIns.xs f.at_).fBin = 4 ∧ ¬ (nth (nth (nth p.fFuncs.xs fn).fBlocks.xs blk).fIns.xs f.at_).fBin = 5) := by omega
        rcases hb3 with hb | hb | ⟨hb, hb'⟩
        ·
          have hdv : divides (nth (nth (nth p.fFuncs.xs fn).fBlocks.xs blk).fIns.xs f.at_).fBin := by unfold divides; omega
          (repeat' (first | refine s_move ?_ | refine s_assign ?_ | refine s_nil ?_ | (refine k_C ?_; first | refine s_seq ?_ | refine s_region ?_ | refine s_skip ?_ | refine s_ift rfl ?_ | (refine s_ifd rfl ?_ ?_ <;> intro hc <;> try (exfalso; omega))) | (refine k_E ?_; refine e_seq ?_) | (refine k_load ?_; first | refine s_ldB rfl rfl ?_ | refine s_ldS rfl rfl om rfl ?_) | (refine k_bin ?_; refine s_eql rfl rfl ?_) | (refine k_fld ?_; refine s_fldB rfl ?_) | (refine k_idx ?_; refine s_idxS rfl rfl om ?_) | (refine k_guard ?_; first | refine s_off rfl rfl rfl rfl ?_ | (refine s_casesd rfl rfl ?_ ?_ <;> intro hc <;> try (exfalso; omega))) | refine s_lookW rfl rfl ?_ | refine s_pick rfl ?_ | refine s_nilck rfl ?_))
          refine s_bld (⟨3, x, y⟩ : ApiLeak) (by rw [hx, hy]; kernel_rfl) ?_
          (repeat' (first | (refine k_fld ?_; refine s_fldB rfl ?_) | refine s_nilck rfl ?_ | (refine s_app1 _ (fun _ => rfl) rfl om ?_; intro v A c)))
          obtain ⟨A3, rfl⟩ : ∃ q, q = A := ⟨_, rfl⟩
          obtain ⟨c3, rfl⟩ : ∃ q, q = c := ⟨_, rfl⟩
          refine s_stB (⟨p, ⟨Am, cm, ss2⟩, ⟨A3, c3, M.leaks ++ [(⟨3, x, y⟩ : ApiLeak)]⟩, (F : Int) - ((M.steps + 1 : Nat) : Int), 0, false⟩ : Palingslaw08Own) rfl rfl (by simp only [Enc.enc, List.length_append]; rfl) (by decide) ?_
          (repeat' (first | refine s_move ?_ | refine s_nil ?_ | (refine k_C ?_; first | refine s_seq ?_ | refine s_region ?_) | (refine k_E ?_; refine e_seq ?_) | (refine k_load ?_; refine s_ldB rfl rfl ?_) | (refine k_fld ?_; refine s_fldB rfl ?_)))
          refine so_sub (L' := [var 51 b16 (nth (nth (nth p.fFuncs.xs fn).fBlocks.xs blk).fIns.xs f.at_), mp EW 3 vb (keysOf p fn).length f.vals, var 63 b10 (nth p.fFuncs.xs fn), var 41 bo (⟨p, ⟨Am, cm, ss2⟩, ⟨A3, c3, (M.leaks ++ [(⟨3, x, y⟩ : ApiLeak)])⟩, ((F : Int) - ((M.steps + 1 : Nat) : Int)), 0, false⟩ : Palingslaw08Own), own 86 A3 (M.leaks ++ [(⟨3, x, y⟩ : ApiLeak)]).length c3 (M.leaks ++ [(⟨3, x, y⟩ : ApiLeak)]), own 45 Am ss2.length cm ss2, rws 2 ss2]) (PSub.eq (by rw [List.length_append]; rfl)) ?_
          refine s_call0 (do_spec (nth (nth (nth p.fFuncs.xs fn).fBlocks.xs blk).fIns.xs f.at_).fBin x y) (by rw [hx, hy]; rfl) (fun _ _ => trivial) ?_
          rintro r L' ⟨rfl, rfl⟩
          have hzw : wfi (doW (nth (nth (nth p.fFuncs.xs fn).fBlocks.xs blk).fIns.xs f.at_).fBin x y).1 := doW_wfi hxw hyw
          obtain ⟨z, hz⟩ : ∃ q, doW (nth (nth (nth p.fFuncs.xs fn).fBlocks.xs blk).fIns.xs f.at_).fBin x y = q := ⟨_, rfl⟩
          rw [hz] at hzw
          rw [hz]
          (repeat' (first | refine s_move ?_ | refine s_assign ?_ | refine s_nil ?_ | (refine k_C ?_; first | refine s_seq ?_ | refine s_region ?_ | refine s_skip ?_ | (refine s_if rfl ?_ ?_ <;> intro hc)) | (refine k_E ?_; refine e_seq ?_) | (refine k_load ?_; refine s_ldB rfl rfl ?_) | (refine k_fld ?_; refine s_fldB rfl ?_) | refine s_not rfl ?_ | refine s_extract rfl rfl ?_ | refine s_nilck rfl ?_))
          · have hz2 : z.2 = false := by simpa using hc
            refine s_stB (⟨p, ⟨Am, cm, ss2⟩, ⟨A3, c3, (M.leaks ++ [(⟨3, x, y⟩ : ApiLeak)])⟩, (F : Int) - ((M.steps + 1 : Nat) : Int), 2, false⟩ : Palingslaw08Own) rfl rfl (by rfl) (by decide) ?_
            (repeat' (first | refine s_assign ?_ | refine s_nil ?_ | (refine k_C ?_; first | refine s_seq ?_ | refine s_region ?_ | refine s_ret ?_) | (refine k_E ?_; first | refine e_seq ?_ | refine e_seq_ret ?_ | refine e_bk_ret ?_ | refine e_lp_ret ?_)))
            have hd := do_binN (p := p) (M := M) (base := base) (f := f) ho hx0 hy0 hz hz2
            rw [if_pos hdv] at hd
            exact e_done2 rfl rfl rfl [var 41 bo (⟨p, ⟨Am, cm, ss2⟩, ⟨A3, c3, (M.leaks ++ [(⟨3, x, y⟩ : ApiLeak)])⟩, ((F : Int) - ((M.steps + 1 : Nat) : Int)), 2, false⟩ : Palingslaw08Own), own 86 A3 (M.leaks ++ [(⟨3, x, y⟩ : ApiLeak)]).length c3 (M.leaks ++ [(⟨3, x, y⟩ : ApiLeak)]), own 45 Am ss2.length cm ss2, rws 2 ss2] (PSub.take [3, 3, 3, 3] (by kernel_rfl)) ⟨0, false, ss2, A3, c3, (M.leaks ++ [(⟨3, x, y⟩ : ApiLeak)]), _, _, _, rfl, rfl, by rw [hs2]; exact hr.trapI hG hW hlt hatN (by rw [hins]; exact hd) (by omega)⟩
          · have hz2 : z.2 = true := by simpa using hc
            refine s_put (yv := z.1) rfl rfl rfl hdw (wfi_iff.1 hzw) (by omega) ?_
            (repeat' (first | refine s_move ?_ | refine s_nil ?_ | (refine k_C ?_; first | refine s_seq ?_ | refine s_region ?_ | refine s_skip ?_ | (refine s_ifd rfl ?_ ?_ <;> intro hc <;> try (exfalso; omega))) | (refine k_E ?_; first | refine e_seq ?_ | refine e_bk ?_) | (refine k_load ?_; refine s_ldB rfl rfl ?_) | (refine k_bin ?_; first | refine s_add1 rfl rfl om ?_ | refine s_eql rfl rfl ?_) | (refine k_fld ?_; refine s_fldB rfl ?_) | (refine k_guard ?_; first | refine s_on rfl rfl ?_ | (refine s_casesd rfl rfl ?_ ?_ <;> intro hc <;> try (exfalso; omega))) | refine s_pick rfl ?_))
            have hd := do_bin (p := p) (M := M) (base := base) (f := f) ho hx0 hy0 hz hz2
            rw [if_pos hdv] at hd
            refine e_lp (upM M base f (M.leaks ++ [(⟨3, x, y⟩ : ApiLeak)]) M.mem (putF f.vals (nth (nth (nth p.fFuncs.xs fn).fBlocks.xs blk).fIns.xs f.at_).fDst z.1), nxF f (putF f.vals (nth (nth (nth p.fFuncs.xs fn).fBlocks.xs blk).fIns.xs f.at_).fDst z.1), A3, c3, ss2) (by repeat (first | exact trivial | refine ⟨rfl, ?_⟩)) ⟨hr.up hG hW hlt hatN (by rw [hins]; exact hd), hfb2, hatl, hs2, by show M1.steps ≤ M.steps + 1; omega⟩ (by show (nth (nth p.fFuncs.xs fn).fBlocks.xs blk).fIns.xs.length - (f.at_ + 1) < (nth (nth p.fFuncs.xs fn).fBlocks.xs blk).fIns.xs.length - f.at_; omega) ((PSub.take (L' := [mp EW 3 vb ((keysOf p fn).length + 1) (upd f.vals (nth (nth (nth p.fFuncs.xs fn).fBlocks.xs blk).fIns.xs f.at_).fDst (some z.1)), var 63 b10 (nth p.fFuncs.xs fn), var 41 bo (⟨p, ⟨Am, cm, ss2⟩, ⟨A3, c3, (M.leaks ++ [(⟨3, x, y⟩ : ApiLeak)])⟩, ((F : Int) - ((M.steps + 1 : Nat) : Int)), 0, false⟩ : Palingslaw08Own), own 86 A3 (M.leaks ++ [(⟨3, x, y⟩ : ApiLeak)]).length c3 (M.leaks ++ [(⟨3, x, y⟩ : ApiLeak)]), own 45 Am ss2.length cm ss2, rws 2 ss2]) [1, 1, 1, 1, 1, 1] (by kernel_rfl)).trans (PSub.mpCut (keysOf p fn) U_3 (hkd _ (hda (by omega)))))
        ·
          have hdv : divides (nth (nth (nth p.fFuncs.xs fn).fBlocks.xs blk).fIns.xs f.at_).fBin := by unfold divides; omega
          (repeat' (first | refine s_move ?_ | refine s_assign ?_ | refine s_nil ?_ | (refine k_C ?_; first | refine s_seq ?_ | refine s_region ?_ | refine s_skip ?_ | (refine s_ifd rfl ?_ ?_ <;> intro hc <;> try (exfalso; omega))) | (refine k_E ?_; refine e_seq ?_) | (refine k_load ?_; first | refine s_ldB rfl rfl ?_ | refine s_ldS rfl rfl om rfl ?_) | (refine k_bin ?_; refine s_eql rfl rfl ?_) | (refine k_fld ?_; refine s_fldB rfl ?_) | (refine k_idx ?_; refine s_idxS rfl rfl om ?_) | (refine k_guard ?_; first | refine s_on rfl rfl ?_ | (refine s_casesd rfl rfl ?_ ?_ <;> intro hc <;> try (exfalso; omega))) | refine s_lookW rfl rfl ?_ | refine s_pick rfl ?_ | refine s_nilck rfl ?_))
          refine s_bld (⟨3, x, y⟩ : ApiLeak) (by rw [hx, hy]; kernel_rfl) ?_
          (repeat' (first | (refine k_fld ?_; refine s_fldB rfl ?_) | refine s_nilck rfl ?_ | (refine s_app1 _ (fun _ => rfl) rfl om ?_; intro v A c)))
          obtain ⟨A3, rfl⟩ : ∃ q, q = A := ⟨_, rfl⟩
          obtain ⟨c3, rfl⟩ : ∃ q, q = c := ⟨_, rfl⟩
          refine s_stB (⟨p, ⟨Am, cm, ss2⟩, ⟨A3, c3, M.leaks ++ [(⟨3, x, y⟩ : ApiLeak)]⟩, (F : Int) - ((M.steps + 1 : Nat) : Int), 0, false⟩ : Palingslaw08Own) rfl rfl (by simp only [Enc.enc, List.length_append]; rfl) (by decide) ?_
          (repeat' (first | refine s_move ?_ | refine s_nil ?_ | (refine k_C ?_; first | refine s_seq ?_ | refine s_region ?_) | (refine k_E ?_; refine e_seq ?_) | (refine k_load ?_; refine s_ldB rfl rfl ?_) | (refine k_fld ?_; refine s_fldB rfl ?_)))
          refine so_sub (L' := [var 51 b16 (nth (nth (nth p.fFuncs.xs fn).fBlocks.xs blk).fIns.xs f.at_), mp EW 3 vb (keysOf p fn).length f.vals, var 63 b10 (nth p.fFuncs.xs fn), var 41 bo (⟨p, ⟨Am, cm, ss2⟩, ⟨A3, c3, (M.leaks ++ [(⟨3, x, y⟩ : ApiLeak)])⟩, ((F : Int) - ((M.steps + 1 : Nat) : Int)), 0, false⟩ : Palingslaw08Own), own 86 A3 (M.leaks ++ [(⟨3, x, y⟩ : ApiLeak)]).length c3 (M.leaks ++ [(⟨3, x, y⟩ : ApiLeak)]), own 45 Am ss2.length cm ss2, rws 2 ss2]) (PSub.eq (by rw [List.length_append]; rfl)) ?_
          refine s_call0 (do_spec (nth (nth (nth p.fFuncs.xs fn).fBlocks.xs blk).fIns.xs f.at_).fBin x y) (by rw [hx, hy]; rfl) (fun _ _ => trivial) ?_
          rintro r L' ⟨rfl, rfl⟩
          have hzw : wfi (doW (nth (nth (nth p.fFuncs.xs fn).fBlocks.xs blk).fIns.xs f.at_).fBin x y).1 := doW_wfi hxw hyw
          obtain ⟨z, hz⟩ : ∃ q, doW (nth (nth (nth p.fFuncs.xs fn).fBlocks.xs blk).fIns.xs f.at_).fBin x y = q := ⟨_, rfl⟩
          rw [hz] at hzw
          rw [hz]
          (repeat' (first | refine s_move ?_ | refine s_assign ?_ | refine s_nil ?_ | (refine k_C ?_; first | refine s_seq ?_ | refine s_region ?_ | refine s_skip ?_ | (refine s_if rfl ?_ ?_ <;> intro hc)) | (refine k_E ?_; refine e_seq ?_) | (refine k_load ?_; refine s_ldB rfl rfl ?_) | (refine k_fld ?_; refine s_fldB rfl ?_) | refine s_not rfl ?_ | refine s_extract rfl rfl ?_ | refine s_nilck rfl ?_))
          · have hz2 : z.2 = false := by simpa using hc
            refine s_stB (⟨p, ⟨Am, cm, ss2⟩, ⟨A3, c3, (M.leaks ++ [(⟨3, x, y⟩ : ApiLeak)])⟩, (F : Int) - ((M.steps + 1 : Nat) : Int), 2, false⟩ : Palingslaw08Own) rfl rfl (by rfl) (by decide) ?_
            (repeat' (first | refine s_assign ?_ | refine s_nil ?_ | (refine k_C ?_; first | refine s_seq ?_ | refine s_region ?_ | refine s_ret ?_) | (refine k_E ?_; first | refine e_seq ?_ | refine e_seq_ret ?_ | refine e_bk_ret ?_ | refine e_lp_ret ?_)))
            have hd := do_binN (p := p) (M := M) (base := base) (f := f) ho hx0 hy0 hz hz2
            rw [if_pos hdv] at hd
            exact e_done2 rfl rfl rfl [var 41 bo (⟨p, ⟨Am, cm, ss2⟩, ⟨A3, c3, (M.leaks ++ [(⟨3, x, y⟩ : ApiLeak)])⟩, ((F : Int) - ((M.steps + 1 : Nat) : Int)), 2, false⟩ : Palingslaw08Own), own 86 A3 (M.leaks ++ [(⟨3, x, y⟩ : ApiLeak)]).length c3 (M.leaks ++ [(⟨3, x, y⟩ : ApiLeak)]), own 45 Am ss2.length cm ss2, rws 2 ss2] (PSub.take [3, 3, 3, 3] (by kernel_rfl)) ⟨0, false, ss2, A3, c3, (M.leaks ++ [(⟨3, x, y⟩ : ApiLeak)]), _, _, _, rfl, rfl, by rw [hs2]; exact hr.trapI hG hW hlt hatN (by rw [hins]; exact hd) (by omega)⟩
          · have hz2 : z.2 = true := by simpa using hc
            refine s_put (yv := z.1) rfl rfl rfl hdw (wfi_iff.1 hzw) (by omega) ?_
            (repeat' (first | refine s_move ?_ | refine s_nil ?_ | (refine k_C ?_; first | refine s_seq ?_ | refine s_region ?_ | refine s_skip ?_ | (refine s_ifd rfl ?_ ?_ <;> intro hc <;> try (exfalso; omega))) | (refine k_E ?_; first | refine e_seq ?_ | refine e_bk ?_) | (refine k_load ?_; refine s_ldB rfl rfl ?_) | (refine k_bin ?_; first | refine s_add1 rfl rfl om ?_ | refine s_eql rfl rfl ?_) | (refine k_fld ?_; refine s_fldB rfl ?_) | (refine k_guard ?_; first | refine s_on rfl rfl ?_ | (refine s_casesd rfl rfl ?_ ?_ <;> intro hc <;> try (exfalso; omega))) | refine s_pick rfl ?_))
            have hd := do_bin (p := p) (M := M) (base := base) (f := f) ho hx0 hy0 hz hz2
            rw [if_pos hdv] at hd
            refine e_lp (upM M base f (M.leaks ++ [(⟨3, x, y⟩ : ApiLeak)]) M.mem (putF f.vals (nth (nth (nth p.fFuncs.xs fn).fBlocks.xs blk).fIns.xs f.at_).fDst z.1), nxF f (putF f.vals (nth (nth (nth p.fFuncs.xs fn).fBlocks.xs blk).fIns.xs f.at_).fDst z.1), A3, c3, ss2) (by repeat (first | exact trivial | refine ⟨rfl, ?_⟩)) ⟨hr.up hG hW hlt hatN (by rw [hins]; exact hd), hfb2, hatl, hs2, by show M1.steps ≤ M.steps + 1; omega⟩ (by show (nth (nth p.fFuncs.xs fn).fBlocks.xs blk).fIns.xs.length - (f.at_ + 1) < (nth (nth p.fFuncs.xs fn).fBlocks.xs blk).fIns.xs.length - f.at_; omega) ((PSub.take (L' := [mp EW 3 vb ((keysOf p fn).length + 1) (upd f.vals (nth (nth (nth p.fFuncs.xs fn).fBlocks.xs blk).fIns.xs f.at_).fDst (some z.1)), var 63 b10 (nth p.fFuncs.xs fn), var 41 bo (⟨p, ⟨Am, cm, ss2⟩, ⟨A3, c3, (M.leaks ++ [(⟨3, x, y⟩ : ApiLeak)])⟩, ((F : Int) - ((M.steps + 1 : Nat) : Int)), 0, false⟩ : Palingslaw08Own), own 86 A3 (M.leaks ++ [(⟨3, x, y⟩ : ApiLeak)]).length c3 (M.leaks ++ [(⟨3, x, y⟩ : ApiLeak)]), own 45 Am ss2.length cm ss2, rws 2 ss2]) [1, 1, 1, 1, 1, 1] (by kernel_rfl)).trans (PSub.mpCut (keysOf p fn) U_3 (hkd _ (hda (by omega)))))
        · have hdv : ¬ divides (nth (nth (nth p.fFuncs.xs fn).fBlocks.xs blk).fIns.xs f.at_).fBin := by unfold divides; omega
          (repeat' (first | refine s_move ?_ | refine s_assign ?_ | refine s_nil ?_ | (refine k_C ?_; first | refine s_seq ?_ | refine s_region ?_ | refine s_skip ?_ | (refine s_ifd rfl ?_ ?_ <;> intro hc <;> try (exfalso; omega))) | (refine k_E ?_; refine e_seq ?_) | (refine k_load ?_; first | refine s_ldB rfl rfl ?_ | refine s_ldS rfl rfl om rfl ?_) | (refine k_bin ?_; refine s_eql rfl rfl ?_) | (refine k_fld ?_; refine s_fldB rfl ?_) | (refine k_idx ?_; refine s_idxS rfl rfl om ?_) | (refine k_guard ?_; first | refine s_on rfl rfl ?_ | (refine s_casesd rfl rfl ?_ ?_ <;> intro hc <;> try (exfalso; omega))) | refine s_lookW rfl rfl ?_ | refine s_pick rfl ?_))
          refine s_call0 (do_spec (nth (nth (nth p.fFuncs.xs fn).fBlocks.xs blk).fIns.xs f.at_).fBin x y) (by rw [hx, hy]; rfl) (fun _ _ => trivial) ?_
          rintro r L' ⟨rfl, rfl⟩
          have hzw : wfi (doW (nth (nth (nth p.fFuncs.xs fn).fBlocks.xs blk).fIns.xs f.at_).fBin x y).1 := doW_wfi hxw hyw
          obtain ⟨z, hz⟩ : ∃ q, doW (nth (nth (nth p.fFuncs.xs fn).fBlocks.xs blk).fIns.xs f.at_).fBin x y = q := ⟨_, rfl⟩
          rw [hz] at hzw
          rw [hz]
          (repeat' (first | refine s_move ?_ | refine s_assign ?_ | refine s_nil ?_ | (refine k_C ?_; first | refine s_seq ?_ | refine s_region ?_ | refine s_skip ?_ | (refine s_if rfl ?_ ?_ <;> intro hc)) | (refine k_E ?_; refine e_seq ?_) | (refine k_load ?_; refine s_ldB rfl rfl ?_) | (refine k_fld ?_; refine s_fldB rfl ?_) | refine s_not rfl ?_ | refine s_extract rfl rfl ?_ | refine s_nilck rfl ?_))
          · have hz2 : z.2 = false := by simpa using hc
            refine s_stB (⟨p, ⟨Am, cm, ss2⟩, ⟨Al2, cl2, M.leaks⟩, (F : Int) - ((M.steps + 1 : Nat) : Int), 2, false⟩ : Palingslaw08Own) rfl rfl (by rfl) (by decide) ?_
            (repeat' (first | refine s_assign ?_ | refine s_nil ?_ | (refine k_C ?_; first | refine s_seq ?_ | refine s_region ?_ | refine s_ret ?_) | (refine k_E ?_; first | refine e_seq ?_ | refine e_seq_ret ?_ | refine e_bk_ret ?_ | refine e_lp_ret ?_)))
            have hd := do_binN (p := p) (M := M) (base := base) (f := f) ho hx0 hy0 hz hz2
            rw [if_neg hdv] at hd
            exact e_done2 rfl rfl rfl [var 41 bo (⟨p, ⟨Am, cm, ss2⟩, ⟨Al2, cl2, M.leaks⟩, ((F : Int) - ((M.steps + 1 : Nat) : Int)), 2, false⟩ : Palingslaw08Own), own 86 Al2 M.leaks.length cl2 M.leaks, own 45 Am ss2.length cm ss2, rws 2 ss2] (PSub.take [3, 3, 3, 3] (by kernel_rfl)) ⟨0, false, ss2, Al2, cl2, M.leaks, _, _, _, rfl, rfl, by rw [hs2]; exact hr.trapI hG hW hlt hatN (by rw [hins]; exact hd) (by omega)⟩
          · have hz2 : z.2 = true := by simpa using hc
            refine s_put (yv := z.1) rfl rfl rfl hdw (wfi_iff.1 hzw) (by omega) ?_
            (repeat' (first | refine s_move ?_ | refine s_nil ?_ | (refine k_C ?_; first | refine s_seq ?_ | refine s_region ?_ | refine s_skip ?_ | (refine s_ifd rfl ?_ ?_ <;> intro hc <;> try (exfalso; omega))) | (refine k_E ?_; first | refine e_seq ?_ | refine e_bk ?_) | (refine k_load ?_; refine s_ldB rfl rfl ?_) | (refine k_bin ?_; first | refine s_add1 rfl rfl om ?_ | refine s_eql rfl rfl ?_) | (refine k_fld ?_; refine s_fldB rfl ?_) | (refine k_guard ?_; first | refine s_on rfl rfl ?_ | (refine s_casesd rfl rfl ?_ ?_ <;> intro hc <;> try (exfalso; omega))) | refine s_pick rfl ?_))
            have hd := do_bin (p := p) (M := M) (base := base) (f := f) ho hx0 hy0 hz hz2
            rw [if_neg hdv] at hd
            refine e_lp (upM M base f M.leaks M.mem (putF f.vals (nth (nth (nth p.fFuncs.xs fn).fBlocks.xs blk).fIns.xs f.at_).fDst z.1), nxF f (putF f.vals (nth (nth (nth p.fFuncs.xs fn).fBlocks.xs blk).fIns.xs f.at_).fDst z.1), Al2, cl2, ss2) (by repeat (first | exact trivial | refine ⟨rfl, ?_⟩)) ⟨hr.up hG hW hlt hatN (by rw [hins]; exact hd), hfb2, hatl, hs2, by show M1.steps ≤ M.steps + 1; omega⟩ (by show (nth (nth p.fFuncs.xs fn).fBlocks.xs blk).fIns.xs.length - (f.at_ + 1) < (nth (nth p.fFuncs.xs fn).fBlocks.xs blk).fIns.xs.length - f.at_; omega) ((PSub.take (L' := [mp EW 3 vb ((keysOf p fn).length + 1) (upd f.vals (nth (nth (nth p.fFuncs.xs fn).fBlocks.xs blk).fIns.xs f.at_).fDst (some z.1)), var 63 b10 (nth p.fFuncs.xs fn), var 41 bo (⟨p, ⟨Am, cm, ss2⟩, ⟨Al2, cl2, M.leaks⟩, ((F : Int) - ((M.steps + 1 : Nat) : Int)), 0, false⟩ : Palingslaw08Own), own 86 Al2 M.leaks.length cl2 M.leaks, own 45 Am ss2.length cm ss2, rws 2 ss2]) [1, 1, 1, 1, 1, 1] (by kernel_rfl)).trans (PSub.mpCut (keysOf p fn) U_3 (hkd _ (hda (by omega)))))
        --}
      ·
        --{
        obtain ⟨ha0, ha1⟩ := harr (by omega)
        obtain ⟨hr0, hr1', hr2⟩ := hrow ha1
        (repeat' (first | refine s_nil ?_ | (refine k_C ?_; first | refine s_seq ?_ | refine s_region ?_ | refine s_skip ?_ | (refine s_ifd rfl ?_ ?_ <;> intro hc <;> try (exfalso; omega))) | (refine k_E ?_; refine e_seq ?_) | (refine k_load ?_; refine s_ldB rfl rfl ?_) | (refine k_bin ?_; refine s_eql rfl rfl ?_) | (refine k_fld ?_; refine s_fldB rfl ?_)))
        refine s_tail (F := ?F3) 13 [0, 1, 2, 3, 4, 5, 6, 7, 8, 9, 10, 11, 12] foI (by kernel_rfl) ?hr3 ?hn3
        case hr3 =>
          change sO _ _ _ _ _ _ (_ :: _ :: _ :: _ :: _ :: _ :: _ :: _ :: _ :: _ :: _ :: _ :: _ :: []) _ _ _
          (repeat' (first | refine s_move ?_ | refine s_nil ?_ | (refine k_load ?_; first | refine s_ldB rfl rfl ?_ | refine s_ld rfl om rfl ?_ | refine s_ldR rfl om rfl ?_) | (refine k_fld ?_; refine s_fldB rfl ?_) | (refine k_idx ?_; first | refine s_idxI rfl rfl om om ?_ | refine s_idxR rfl rfl om ?_) | refine s_nilck rfl ?_))
          exact e_F
        case hn3 =>
          change sO _ _ _ _ _ _ (_ :: []) _ _ _
          refine s_put (yv := nth (nth ss2 (nth (nth (nth p.fFuncs.xs fn).fBlocks.xs blk).fIns.xs f.at_).fArr.toNat).xs 0) rfl rfl rfl hdw (wfi_iff.1 (hr2 0 hr0)) (by omega) ?_
          (repeat' (first | refine s_move ?_ | refine s_nil ?_ | (refine k_C ?_; first | refine s_seq ?_ | refine s_region ?_ | refine s_skip ?_ | (refine s_ifd rfl ?_ ?_ <;> intro hc <;> try (exfalso; omega))) | (refine k_E ?_; first | refine e_seq ?_ | refine e_bk ?_) | (refine k_load ?_; refine s_ldB rfl rfl ?_) | (refine k_bin ?_; first | refine s_add1 rfl rfl om ?_ | refine s_eql rfl rfl ?_) | (refine k_fld ?_; refine s_fldB rfl ?_) | (refine k_guard ?_; first | refine s_on rfl rfl ?_ | (refine s_casesd rfl rfl ?_ ?_ <;> intro hc <;> try (exfalso; omega))) | refine s_pick rfl ?_))
          refine e_lp (upM M base f M.leaks M.mem (putF f.vals (nth (nth (nth p.fFuncs.xs fn).fBlocks.xs blk).fIns.xs f.at_).fDst (nth (nth ss2 (nth (nth (nth p.fFuncs.xs fn).fBlocks.xs blk).fIns.xs f.at_).fArr.toNat).xs 0)), nxF f (putF f.vals (nth (nth (nth p.fFuncs.xs fn).fBlocks.xs blk).fIns.xs f.at_).fDst (nth (nth ss2 (nth (nth (nth p.fFuncs.xs fn).fBlocks.xs blk).fIns.xs f.at_).fArr.toNat).xs 0)), Al2, cl2, ss2) (by repeat (first | exact trivial | refine ⟨rfl, ?_⟩)) ⟨hr.up hG hW hlt hatN (by rw [hins, rows_nth hs2 ha1]; exact do_get ho), hfb2, hatl, hs2, by show M1.steps ≤ M.steps + 1; omega⟩ (by show (nth (nth p.fFuncs.xs fn).fBlocks.xs blk).fIns.xs.length - (f.at_ + 1) < (nth (nth p.fFuncs.xs fn).fBlocks.xs blk).fIns.xs.length - f.at_; omega) ((PSub.take [1, 1, 1, 1, 1, 1] rfl).trans (PSub.mpCut (keysOf p fn) U_3 (hkd _ (hda (by omega)))))
        --}
      ·
        --{
        obtain ⟨ha0, ha1⟩ := harr (by omega)
        obtain ⟨hr0, hr1', hr2⟩ := hrow ha1
        have hl4 := hn4 ho
        have hx0 : nth ((nth (nth (nth p.fFuncs.xs fn).fBlocks.xs blk).fIns.xs f.at_).fArgs.xs.map (getV f.vals)) 0 = (getV f.vals (nth (nth (nth (nth p.fFuncs.xs fn).fBlocks.xs blk).fIns.xs f.at_).fArgs.xs 0)) := nth_map (by omega)
        (repeat' (first | refine s_nil ?_ | (refine k_C ?_; first | refine s_seq ?_ | refine s_region ?_ | refine s_skip ?_ | (refine s_ifd rfl ?_ ?_ <;> intro hc <;> try (exfalso; omega))) | (refine k_E ?_; refine e_seq ?_) | (refine k_load ?_; refine s_ldB rfl rfl ?_) | (refine k_bin ?_; refine s_eql rfl rfl ?_) | (refine k_fld ?_; refine s_fldB rfl ?_)))
        refine s_tail (F := ?F4) 14 [0, 1, 2, 3, 4, 5, 6, 7, 8, 9, 10, 11, 12, 13] foI (by kernel_rfl) ?hr4 ?hn4
        case hr4 =>
          change sO _ _ _ _ _ _ (_ :: _ :: _ :: _ :: _ :: _ :: _ :: _ :: _ :: _ :: _ :: _ :: _ :: _ :: []) _ _ _
          (repeat' (first | refine s_move ?_ | refine s_nil ?_ | (refine k_load ?_; first | refine s_ldB rfl rfl ?_ | refine s_ld rfl om rfl ?_ | refine s_ldS rfl rfl om rfl ?_) | (refine k_fld ?_; refine s_fldB rfl ?_) | (refine k_idx ?_; first | refine s_idxI rfl rfl om om ?_ | refine s_idxS rfl rfl om ?_) | refine s_lookW rfl rfl ?_ | refine s_nilck rfl ?_))
          exact e_F
        case hn4 =>
          change sO _ _ _ _ _ _ (_ :: _ :: []) _ _ _
          refine so_sub (L' := [own 2 (nth ss2 (nth (nth (nth p.fFuncs.xs fn).fBlocks.xs blk).fIns.xs f.at_).fArr.toNat).A (nth ss2 (nth (nth (nth p.fFuncs.xs fn).fBlocks.xs blk).fIns.xs f.at_).fArr.toNat).xs.length (nth ss2 (nth (nth (nth p.fFuncs.xs fn).fBlocks.xs blk).fIns.xs f.at_).fArr.toNat).c (nth ss2 (nth (nth (nth p.fFuncs.xs fn).fBlocks.xs blk).fIns.xs f.at_).fArr.toNat).xs, rws 2 (ss2.eraseIdx (nth (nth (nth p.fFuncs.xs fn).fBlocks.xs blk).fIns.xs f.at_).fArr.toNat), var 51 b16 (nth (nth (nth p.fFuncs.xs fn).fBlocks.xs blk).fIns.xs f.at_), mp EW 3 vb (keysOf p fn).length f.vals, var 63 b10 (nth p.fFuncs.xs fn), var 41 bo (⟨p, ⟨Am, cm, ss2⟩, ⟨Al2, cl2, M.leaks⟩, ((F : Int) - ((M.steps + 1 : Nat) : Int)), 0, false⟩ : Palingslaw08Own), own 86 Al2 M.leaks.length cl2 M.leaks, own 45 Am ss2.length cm ss2]) ((PSub.take [6, 0, 0, 0, 0, 0, 0] rfl).trans (PSub.rowOut (by omega))) ?_
          (repeat' (first | refine s_move ?_ | refine s_nil ?_ | (refine k_C ?_; first | refine s_seq ?_ | refine s_region ?_ | refine s_skip ?_ | (refine s_ifd rfl ?_ ?_ <;> intro hc <;> try (exfalso; omega))) | (refine k_E ?_; first | refine e_seq ?_ | refine e_bk ?_) | (refine k_load ?_; refine s_ldB rfl rfl ?_) | (refine k_bin ?_; first | refine s_add1 rfl rfl om ?_ | refine s_eql rfl rfl ?_) | (refine k_fld ?_; refine s_fldB rfl ?_) | (refine k_idx ?_; refine s_idx rfl rfl om ?_) | (refine k_store ?_; refine s_st _ rfl rfl om ?_) | (refine k_guard ?_; first | refine s_on rfl rfl ?_ | (refine s_casesd rfl rfl ?_ ?_ <;> intro hc <;> try (exfalso; omega))) | refine s_pick rfl ?_))
          have hys : ((nth ss2 (nth (nth (nth p.fFuncs.xs fn).fBlocks.xs blk).fIns.xs f.at_).fArr.toNat).xs.set 0 (getV f.vals (nth (nth (nth (nth p.fFuncs.xs fn).fBlocks.xs blk).fIns.xs f.at_).fArgs.xs 0))).length = (nth ss2 (nth (nth (nth p.fFuncs.xs fn).fBlocks.xs blk).fIns.xs f.at_).fArr.toNat).xs.length := List.length_set
          refine e_lp (upM M base f M.leaks (M.mem.set (nth (nth (nth p.fFuncs.xs fn).fBlocks.xs blk).fIns.xs f.at_).fArr.toNat ((M.row (nth (nth (nth p.fFuncs.xs fn).fBlocks.xs blk).fIns.xs f.at_).fArr.toNat).set 0 (getV f.vals (nth (nth (nth (nth p.fFuncs.xs fn).fBlocks.xs blk).fIns.xs f.at_).fArgs.xs 0)))) f.vals, nxF f f.vals, Al2, cl2, ss2.set (nth (nth (nth p.fFuncs.xs fn).fBlocks.xs blk).fIns.xs f.at_).fArr.toNat ⟨(nth ss2 (nth (nth (nth p.fFuncs.xs fn).fBlocks.xs blk).fIns.xs f.at_).fArr.toNat).A, (nth ss2 (nth (nth (nth p.fFuncs.xs fn).fBlocks.xs blk).fIns.xs f.at_).fArr.toNat).c, (nth ss2 (nth (nth (nth p.fFuncs.xs fn).fBlocks.xs blk).fIns.xs f.at_).fArr.toNat).xs.set 0 (getV f.vals (nth (nth (nth (nth p.fFuncs.xs fn).fBlocks.xs blk).fIns.xs f.at_).fArgs.xs 0))⟩) (by repeat (first | exact trivial | refine ⟨rfl, ?_⟩)) ⟨hr.up hG hW hlt hatN (by rw [hins]; exact do_set ho hx0), hfb2, hatl, by dsimp only; rw [rows_set hs2, rows_nth hs2 ha1]; rfl, by show M1.steps ≤ M.steps + 1; omega⟩ (by show (nth (nth p.fFuncs.xs fn).fBlocks.xs blk).fIns.xs.length - (f.at_ + 1) < (nth (nth p.fFuncs.xs fn).fBlocks.xs blk).fIns.xs.length - f.at_; omega) ((PSub.rowIn (ss := ss2) (by omega) hys).trans ((PSub.take [2, 2, 2, 2, 2, 0] rfl).trans (PSub.eq ?_)))
          dsimp only
          rw [← own_setRow hys, ow_mem (xs := ss2) (ys := ss2.set (nth (nth (nth p.fFuncs.xs fn).fBlocks.xs blk).fIns.xs f.at_).fArr.toNat ⟨(nth ss2 (nth (nth (nth p.fFuncs.xs fn).fBlocks.xs blk).fIns.xs f.at_).fArr.toNat).A, (nth ss2 (nth (nth (nth p.fFuncs.xs fn).fBlocks.xs blk).fIns.xs f.at_).fArr.toNat).c, (nth ss2 (nth (nth (nth p.fFuncs.xs fn).fBlocks.xs blk).fIns.xs f.at_).fArr.toNat).xs.set 0 (getV f.vals (nth (nth (nth (nth p.fFuncs.xs fn).fBlocks.xs blk).fIns.xs f.at_).fArgs.xs 0))⟩) (by rw [List.length_set])]
          rfl
        --}
      ·
        --{
        obtain ⟨ha0, ha1⟩ := harr (by omega)
        obtain ⟨hr0, hr1', hr2⟩ := hrow ha1
        have hl5 := hn5 ho
        obtain ⟨x, hx⟩ : ∃ q, q = getV f.vals (nth (nth (nth (nth p.fFuncs.xs fn).fBlocks.xs blk).fIns.xs f.at_).fArgs.xs 0) := ⟨_, rfl⟩
        have hx0 : nth ((nth (nth (nth p.fFuncs.xs fn).fBlocks.xs blk).fIns.xs f.at_).fArgs.xs.map (getV f.vals)) 0 = x := by rw [hx]; exact nth_map (by omega)
        by_cases hin : 0 ≤ x ∧ x < (nth ss2 (nth (nth (nth p.fFuncs.xs fn).fBlocks.xs blk).fIns.xs f.at_).fArr.toNat).xs.length
        rotate_left
        · by_cases hneg : x < 0
          ·
            (repeat' (first | refine s_move ?_ | refine s_assign ?_ | refine s_nil ?_ | (refine k_C ?_; first | refine s_seq ?_ | refine s_region ?_ | refine s_skip ?_ | refine s_ift rfl ?_ | (refine s_ifd rfl ?_ ?_ <;> intro hc <;> try (exfalso; omega))) | (refine k_E ?_; refine e_seq ?_) | (refine k_load ?_; first | refine s_ldB rfl rfl ?_ | refine s_ldS rfl rfl om rfl ?_) | (refine k_bin ?_; refine s_eql rfl rfl ?_) | (refine k_fld ?_; refine s_fldB rfl ?_) | (refine k_idx ?_; refine s_idxS rfl rfl om ?_) | (refine k_guard ?_; first | refine s_off rfl rfl rfl rfl ?_ | (refine s_casesd rfl rfl ?_ ?_ <;> intro hc <;> try (exfalso; omega))) | refine s_lookW rfl rfl ?_ | refine s_pick rfl ?_ | refine s_nilck rfl ?_))
            rw [show (f.vals (nth (nth (nth (nth p.fFuncs.xs fn).fBlocks.xs blk).fIns.xs f.at_).fArgs.xs 0)).getD EW.zero = x from hx.symm]
            refine s_bld (⟨2, x, 0⟩ : ApiLeak) (by kernel_rfl) ?_
            (repeat' (first | (refine k_fld ?_; refine s_fldB rfl ?_) | refine s_nilck rfl ?_ | (refine s_app1 _ (fun _ => rfl) rfl om ?_; intro v A c)))
            obtain ⟨A3, rfl⟩ : ∃ q, q = A := ⟨_, rfl⟩
            obtain ⟨c3, rfl⟩ : ∃ q, q = c := ⟨_, rfl⟩
            refine s_stB (⟨p, ⟨Am, cm, ss2⟩, ⟨A3, c3, M.leaks ++ [(⟨2, x, 0⟩ : ApiLeak)]⟩, (F : Int) - ((M.steps + 1 : Nat) : Int), 0, false⟩ : Palingslaw08Own) rfl rfl (by simp only [Enc.enc, List.length_append]; rfl) (by decide) ?_
            (repeat' (first | refine s_move ?_ | refine s_nil ?_ | (refine k_C ?_; first | refine s_seq ?_ | refine s_region ?_ | refine s_stillP foI rfl (by kernel_rfl) ?_ | refine s_ift rfl ?_) | (refine k_E ?_; refine e_seq ?_) | (refine k_bin ?_; refine s_lss rfl rfl ?_) | (refine k_fld ?_; refine s_fldB rfl ?_) | (refine k_guard ?_; first | refine s_off rfl rfl rfl rfl ?_ | (refine s_casesd rfl rfl ?_ ?_ <;> intro hc <;> try (exfalso; omega))) | refine s_pick rfl ?_ | refine s_nilck rfl ?_))
            refine so_sub (L' := [var 51 b16 (nth (nth (nth p.fFuncs.xs fn).fBlocks.xs blk).fIns.xs f.at_), mp EW 3 vb (keysOf p fn).length f.vals, var 63 b10 (nth p.fFuncs.xs fn), var 41 bo (⟨p, ⟨Am, cm, ss2⟩, ⟨A3, c3, (M.leaks ++ [(⟨2, x, 0⟩ : ApiLeak)])⟩, ((F : Int) - ((M.steps + 1 : Nat) : Int)), 0, false⟩ : Palingslaw08Own), own 86 A3 (M.leaks ++ [(⟨2, x, 0⟩ : ApiLeak)]).length c3 (M.leaks ++ [(⟨2, x, 0⟩ : ApiLeak)]), own 45 Am ss2.length cm ss2, rws 2 ss2]) (PSub.eq (by rw [List.length_append]; rfl)) ?_
            refine s_stB (⟨p, ⟨Am, cm, ss2⟩, ⟨A3, c3, M.leaks ++ [(⟨2, x, 0⟩ : ApiLeak)]⟩, (F : Int) - ((M.steps + 1 : Nat) : Int), 4, false⟩ : Palingslaw08Own) rfl rfl (by rfl) (by decide) ?_
            (repeat' (first | refine s_assign ?_ | refine s_nil ?_ | (refine k_C ?_; first | refine s_seq ?_ | refine s_region ?_ | refine s_ret ?_) | (refine k_E ?_; first | refine e_seq ?_ | refine e_seq_ret ?_ | refine e_bk_ret ?_ | refine e_lp_ret ?_)))
            have hd := do_wild (p := p) (M := M) (base := base) (f := f) (.inl ho) hx0 (by rw [← rows_nth hs2 ha1]; exact hin)
            exact e_done2 rfl rfl rfl [var 41 bo (⟨p, ⟨Am, cm, ss2⟩, ⟨A3, c3, (M.leaks ++ [(⟨2, x, 0⟩ : ApiLeak)])⟩, ((F : Int) - ((M.steps + 1 : Nat) : Int)), 4, false⟩ : Palingslaw08Own), own 86 A3 (M.leaks ++ [(⟨2, x, 0⟩ : ApiLeak)]).length c3 (M.leaks ++ [(⟨2, x, 0⟩ : ApiLeak)]), own 45 Am ss2.length cm ss2, rws 2 ss2] (PSub.take [3, 3, 3, 3] (by kernel_rfl)) ⟨0, false, ss2, A3, c3, (M.leaks ++ [(⟨2, x, 0⟩ : ApiLeak)]), _, _, _, rfl, rfl, by rw [hs2]; exact hr.trapI hG hW hlt hatN (by rw [hins]; exact hd) (by omega)⟩
          ·
            (repeat' (first | refine s_move ?_ | refine s_assign ?_ | refine s_nil ?_ | (refine k_C ?_; first | refine s_seq ?_ | refine s_region ?_ | refine s_skip ?_ | refine s_ift rfl ?_ | (refine s_ifd rfl ?_ ?_ <;> intro hc <;> try (exfalso; omega))) | (refine k_E ?_; refine e_seq ?_) | (refine k_load ?_; first | refine s_ldB rfl rfl ?_ | refine s_ldS rfl rfl om rfl ?_) | (refine k_bin ?_; refine s_eql rfl rfl ?_) | (refine k_fld ?_; refine s_fldB rfl ?_) | (refine k_idx ?_; refine s_idxS rfl rfl om ?_) | (refine k_guard ?_; first | refine s_off rfl rfl rfl rfl ?_ | (refine s_casesd rfl rfl ?_ ?_ <;> intro hc <;> try (exfalso; omega))) | refine s_lookW rfl rfl ?_ | refine s_pick rfl ?_ | refine s_nilck rfl ?_))
            rw [show (f.vals (nth (nth (nth (nth p.fFuncs.xs fn).fBlocks.xs blk).fIns.xs f.at_).fArgs.xs 0)).getD EW.zero = x from hx.symm]
            refine s_bld (⟨2, x, 0⟩ : ApiLeak) (by kernel_rfl) ?_
            (repeat' (first | (refine k_fld ?_; refine s_fldB rfl ?_) | refine s_nilck rfl ?_ | (refine s_app1 _ (fun _ => rfl) rfl om ?_; intro v A c)))
            obtain ⟨A3, rfl⟩ : ∃ q, q = A := ⟨_, rfl⟩
            obtain ⟨c3, rfl⟩ : ∃ q, q = c := ⟨_, rfl⟩
            refine s_stB (⟨p, ⟨Am, cm, ss2⟩, ⟨A3, c3, M.leaks ++ [(⟨2, x, 0⟩ : ApiLeak)]⟩, (F : Int) - ((M.steps + 1 : Nat) : Int), 0, false⟩ : Palingslaw08Own) rfl rfl (by simp only [Enc.enc, List.length_append]; rfl) (by decide) ?_
            (repeat' (first | refine s_move ?_ | refine s_nil ?_ | (refine k_C ?_; first | refine s_seq ?_ | refine s_region ?_ | refine s_stillP foI rfl (by kernel_rfl) ?_ | (refine s_ifd rfl ?_ ?_ <;> intro hc <;> try (exfalso; omega))) | (refine k_E ?_; refine e_seq ?_) | (refine k_load ?_; first | refine s_ldB rfl rfl ?_ | refine s_ld rfl om rfl ?_) | (refine k_bin ?_; first | refine s_lss rfl rfl ?_ | refine s_geq rfl rfl ?_) | (refine k_fld ?_; refine s_fldB rfl ?_) | (refine k_idx ?_; refine s_idxI rfl rfl om om ?_) | (refine k_call ?_; refine s_len rfl ?_) | (refine k_guard ?_; first | refine s_on rfl rfl ?_ | (refine s_casesd rfl rfl ?_ ?_ <;> intro hc <;> try (exfalso; omega))) | refine s_pick rfl ?_ | refine s_nilck rfl ?_))
            refine so_sub (L' := [var 51 b16 (nth (nth (nth p.fFuncs.xs fn).fBlocks.xs blk).fIns.xs f.at_), mp EW 3 vb (keysOf p fn).length f.vals, var 63 b10 (nth p.fFuncs.xs fn), var 41 bo (⟨p, ⟨Am, cm, ss2⟩, ⟨A3, c3, (M.leaks ++ [(⟨2, x, 0⟩ : ApiLeak)])⟩, ((F : Int) - ((M.steps + 1 : Nat) : Int)), 0, false⟩ : Palingslaw08Own), own 86 A3 (M.leaks ++ [(⟨2, x, 0⟩ : ApiLeak)]).length c3 (M.leaks ++ [(⟨2, x, 0⟩ : ApiLeak)]), own 45 Am ss2.length cm ss2, rws 2 ss2]) (PSub.eq (by rw [List.length_append]; rfl)) ?_
            refine s_stB (⟨p, ⟨Am, cm, ss2⟩, ⟨A3, c3, M.leaks ++ [(⟨2, x, 0⟩ : ApiLeak)]⟩, (F : Int) - ((M.steps + 1 : Nat) : Int), 4, false⟩ : Palingslaw08Own) rfl rfl (by rfl) (by decide) ?_
            (repeat' (first | refine s_assign ?_ | refine s_nil ?_ | (refine k_C ?_; first | refine s_seq ?_ | refine s_region ?_ | refine s_ret ?_) | (refine k_E ?_; first | refine e_seq ?_ | refine e_seq_ret ?_ | refine e_bk_ret ?_ | refine e_lp_ret ?_)))
            have hd := do_wild (p := p) (M := M) (base := base) (f := f) (.inl ho) hx0 (by rw [← rows_nth hs2 ha1]; exact hin)
            exact e_done2 rfl rfl rfl [var 41 bo (⟨p, ⟨Am, cm, ss2⟩, ⟨A3, c3, (M.leaks ++ [(⟨2, x, 0⟩ : ApiLeak)])⟩, ((F : Int) - ((M.steps + 1 : Nat) : Int)), 4, false⟩ : Palingslaw08Own), own 86 A3 (M.leaks ++ [(⟨2, x, 0⟩ : ApiLeak)]).length c3 (M.leaks ++ [(⟨2, x, 0⟩ : ApiLeak)]), own 45 Am ss2.length cm ss2, rws 2 ss2] (PSub.take [3, 3, 3, 3] (by kernel_rfl)) ⟨0, false, ss2, A3, c3, (M.leaks ++ [(⟨2, x, 0⟩ : ApiLeak)]), _, _, _, rfl, rfl, by rw [hs2]; exact hr.trapI hG hW hlt hatN (by rw [hins]; exact hd) (by omega)⟩
        have hi2 : x.toNat < (nth ss2 (nth (nth (nth p.fFuncs.xs fn).fBlocks.xs blk).fIns.xs f.at_).fArr.toNat).xs.length := by omega
        (repeat' (first | refine s_move ?_ | refine s_assign ?_ | refine s_nil ?_ | (refine k_C ?_; first | refine s_seq ?_ | refine s_region ?_ | refine s_skip ?_ | refine s_ift rfl ?_ | (refine s_ifd rfl ?_ ?_ <;> intro hc <;> try (exfalso; omega))) | (refine k_E ?_; refine e_seq ?_) | (refine k_load ?_; first | refine s_ldB rfl rfl ?_ | refine s_ldS rfl rfl om rfl ?_) | (refine k_bin ?_; refine s_eql rfl rfl ?_) | (refine k_fld ?_; refine s_fldB rfl ?_) | (refine k_idx ?_; refine s_idxS rfl rfl om ?_) | (refine k_guard ?_; first | refine s_off rfl rfl rfl rfl ?_ | (refine s_casesd rfl rfl ?_ ?_ <;> intro hc <;> try (exfalso; omega))) | refine s_lookW rfl rfl ?_ | refine s_pick rfl ?_ | refine s_nilck rfl ?_))
        rw [show (f.vals (nth (nth (nth (nth p.fFuncs.xs fn).fBlocks.xs blk).fIns.xs f.at_).fArgs.xs 0)).getD EW.zero = x from hx.symm]
        refine s_bld (⟨2, x, 0⟩ : ApiLeak) (by kernel_rfl) ?_
        (repeat' (first | (refine k_fld ?_; refine s_fldB rfl ?_) | refine s_nilck rfl ?_ | (refine s_app1 _ (fun _ => rfl) rfl om ?_; intro v A c)))
        obtain ⟨A3, rfl⟩ : ∃ q, q = A := ⟨_, rfl⟩
        obtain ⟨c3, rfl⟩ : ∃ q, q = c := ⟨_, rfl⟩
        refine s_stB (⟨p, ⟨Am, cm, ss2⟩, ⟨A3, c3, M.leaks ++ [(⟨2, x, 0⟩ : ApiLeak)]⟩, (F : Int) - ((M.steps + 1 : Nat) : Int), 0, false⟩ : Palingslaw08Own) rfl rfl (by simp only [Enc.enc, List.length_append]; rfl) (by decide) ?_
        (repeat' (first | refine s_move ?_ | refine s_nil ?_ | (refine k_C ?_; first | refine s_seq ?_ | refine s_region ?_ | refine s_stillP foI rfl (by kernel_rfl) ?_ | refine s_skip ?_ | (refine s_ifd rfl ?_ ?_ <;> intro hc <;> try (exfalso; omega))) | (refine k_E ?_; refine e_seq ?_) | (refine k_load ?_; first | refine s_ldB rfl rfl ?_ | refine s_ld rfl om rfl ?_) | (refine k_bin ?_; first | refine s_lss rfl rfl ?_ | refine s_eql rfl rfl ?_ | refine s_geq rfl rfl ?_) | (refine k_fld ?_; refine s_fldB rfl ?_) | (refine k_idx ?_; refine s_idxI rfl rfl om om ?_) | (refine k_call ?_; refine s_len rfl ?_) | (refine k_guard ?_; first | refine s_on rfl rfl ?_ | (refine s_casesd rfl rfl ?_ ?_ <;> intro hc <;> try (exfalso; omega))) | refine s_pick rfl ?_ | refine s_nilck rfl ?_))
        refine s_sub (L' := [var 51 b16 (nth (nth (nth p.fFuncs.xs fn).fBlocks.xs blk).fIns.xs f.at_), mp EW 3 vb (keysOf p fn).length f.vals, var 63 b10 (nth p.fFuncs.xs fn), var 41 bo (⟨p, ⟨Am, cm, ss2⟩, ⟨A3, c3, (M.leaks ++ [(⟨2, x, 0⟩ : ApiLeak)])⟩, ((F : Int) - ((M.steps + 1 : Nat) : Int)), 0, false⟩ : Palingslaw08Own), own 86 A3 (M.leaks ++ [(⟨2, x, 0⟩ : ApiLeak)]).length c3 (M.leaks ++ [(⟨2, x, 0⟩ : ApiLeak)]), own 45 Am ss2.length cm ss2, rws 2 ss2]) (PSub.eq (by rw [List.length_append]; rfl)) ?_
        refine s_tail (F := ?F5) 14 [0, 1, 2, 3, 4, 5, 6, 7, 8, 9, 10, 11, 12, 13] foI (by kernel_rfl) ?hr5 ?hn5
        case hr5 =>
          change sO _ _ _ _ _ _ (_ :: _ :: _ :: _ :: _ :: _ :: _ :: _ :: _ :: _ :: _ :: _ :: _ :: _ :: []) _ _ _
          (repeat' (first | refine s_move ?_ | refine s_nil ?_ | (refine k_load ?_; first | refine s_ldB rfl rfl ?_ | refine s_ld rfl om rfl ?_ | refine s_ldR rfl om rfl ?_) | (refine k_fld ?_; refine s_fldB rfl ?_) | (refine k_idx ?_; first | refine s_idxI rfl rfl om om ?_ | refine s_idxRI rfl rfl om om ?_) | refine s_nilck rfl ?_))
          exact e_F
        case hn5 =>
          change sO _ _ _ _ _ _ (_ :: []) _ _ _
          refine s_put (yv := nth (nth ss2 (nth (nth (nth p.fFuncs.xs fn).fBlocks.xs blk).fIns.xs f.at_).fArr.toNat).xs x.toNat) rfl rfl rfl hdw (wfi_iff.1 (hr2 _ hi2)) (by omega) ?_
          (repeat' (first | refine s_move ?_ | refine s_nil ?_ | (refine k_C ?_; first | refine s_seq ?_ | refine s_region ?_ | refine s_skip ?_ | (refine s_ifd rfl ?_ ?_ <;> intro hc <;> try (exfalso; omega))) | (refine k_E ?_; first | refine e_seq ?_ | refine e_bk ?_) | (refine k_load ?_; refine s_ldB rfl rfl ?_) | (refine k_bin ?_; first | refine s_add1 rfl rfl om ?_ | refine s_eql rfl rfl ?_) | (refine k_fld ?_; refine s_fldB rfl ?_)))
          refine e_lp (upM M base f (M.leaks ++ [(⟨2, x, 0⟩ : ApiLeak)]) M.mem (putF f.vals (nth (nth (nth p.fFuncs.xs fn).fBlocks.xs blk).fIns.xs f.at_).fDst (nth (nth ss2 (nth (nth (nth p.fFuncs.xs fn).fBlocks.xs blk).fIns.xs f.at_).fArr.toNat).xs x.toNat)), nxF f (putF f.vals (nth (nth (nth p.fFuncs.xs fn).fBlocks.xs blk).fIns.xs f.at_).fDst (nth (nth ss2 (nth (nth (nth p.fFuncs.xs fn).fBlocks.xs blk).fIns.xs f.at_).fArr.toNat).xs x.toNat)), A3, c3, ss2) (by repeat (first | exact trivial | refine ⟨rfl, ?_⟩)) ⟨hr.up hG hW hlt hatN (by rw [hins, rows_nth hs2 ha1]; exact do_load ho hx0 (by rw [← rows_nth hs2 ha1]; exact hin)), hfb2, hatl, hs2, by show M1.steps ≤ M.steps + 1; omega⟩ (by show (nth (nth p.fFuncs.xs fn).fBlocks.xs blk).fIns.xs.length - (f.at_ + 1) < (nth (nth p.fFuncs.xs fn).fBlocks.xs blk).fIns.xs.length - f.at_; omega) ((PSub.take [1, 1, 1, 1, 1, 1] rfl).trans (PSub.mpCut (keysOf p fn) U_3 (hkd _ (hda (by omega)))))
        --}
      ·
        --{
        obtain ⟨ha0, ha1⟩ := harr (by omega)
        obtain ⟨hr0, hr1', hr2⟩ := hrow ha1
        have hl6 := hn6 ho
        obtain ⟨x, hx⟩ : ∃ q, q = getV f.vals (nth (nth (nth (nth p.fFuncs.xs fn).fBlocks.xs blk).fIns.xs f.at_).fArgs.xs 0) := ⟨_, rfl⟩
        have hx0 : nth ((nth (nth (nth p.fFuncs.xs fn).fBlocks.xs blk).fIns.xs f.at_).fArgs.xs.map (getV f.vals)) 0 = x := by rw [hx]; exact nth_map (by omega)
        have hy0 : nth ((nth (nth (nth p.fFuncs.xs fn).fBlocks.xs blk).fIns.xs f.at_).fArgs.xs.map (getV f.vals)) 1 = (getV f.vals (nth (nth (nth (nth p.fFuncs.xs fn).fBlocks.xs blk).fIns.xs f.at_).fArgs.xs 1)) := nth_map (by omega)
        by_cases hin : 0 ≤ x ∧ x < (nth ss2 (nth (nth (nth p.fFuncs.xs fn).fBlocks.xs blk).fIns.xs f.at_).fArr.toNat).xs.length
        rotate_left
        · by_cases hneg : x < 0
          ·
            (repeat' (first | refine s_move ?_ | refine s_assign ?_ | refine s_nil ?_ | (refine k_C ?_; first | refine s_seq ?_ | refine s_region ?_ | refine s_skip ?_ | (refine s_ifd rfl ?_ ?_ <;> intro hc <;> try (exfalso; omega))) | (refine k_E ?_; refine e_seq ?_) | (refine k_load ?_; first | refine s_ldB rfl rfl ?_ | refine s_ldS rfl rfl om rfl ?_) | (refine k_bin ?_; refine s_eql rfl rfl ?_) | (refine k_fld ?_; refine s_fldB rfl ?_) | (refine k_idx ?_; refine s_idxS rfl rfl om ?_) | (refine k_guard ?_; first | refine s_on rfl rfl ?_ | (refine s_casesd rfl rfl ?_ ?_ <;> intro hc <;> try (exfalso; omega))) | refine s_lookW rfl rfl ?_ | refine s_pick rfl ?_ | refine s_nilck rfl ?_))
            rw [show (f.vals (nth (nth (nth (nth p.fFuncs.xs fn).fBlocks.xs blk).fIns.xs f.at_).fArgs.xs 0)).getD EW.zero = x from hx.symm]
            refine s_bld (⟨2, x, 0⟩ : ApiLeak) (by kernel_rfl) ?_
            (repeat' (first | (refine k_fld ?_; refine s_fldB rfl ?_) | refine s_nilck rfl ?_ | (refine s_app1 _ (fun _ => rfl) rfl om ?_; intro v A c)))
            obtain ⟨A3, rfl⟩ : ∃ q, q = A := ⟨_, rfl⟩
            obtain ⟨c3, rfl⟩ : ∃ q, q = c := ⟨_, rfl⟩
            refine s_stB (⟨p, ⟨Am, cm, ss2⟩, ⟨A3, c3, M.leaks ++ [(⟨2, x, 0⟩ : ApiLeak)]⟩, (F : Int) - ((M.steps + 1 : Nat) : Int), 0, false⟩ : Palingslaw08Own) rfl rfl (by simp only [Enc.enc, List.length_append]; rfl) (by decide) ?_
            (repeat' (first | refine s_move ?_ | refine s_nil ?_ | (refine k_C ?_; first | refine s_seq ?_ | refine s_region ?_ | refine s_stillP foI rfl (by kernel_rfl) ?_ | refine s_ift rfl ?_) | (refine k_E ?_; refine e_seq ?_) | (refine k_bin ?_; refine s_lss rfl rfl ?_) | (refine k_fld ?_; refine s_fldB rfl ?_) | (refine k_guard ?_; first | refine s_off rfl rfl rfl rfl ?_ | (refine s_casesd rfl rfl ?_ ?_ <;> intro hc <;> try (exfalso; omega))) | refine s_pick rfl ?_ | refine s_nilck rfl ?_))
            refine so_sub (L' := [var 51 b16 (nth (nth (nth p.fFuncs.xs fn).fBlocks.xs blk).fIns.xs f.at_), mp EW 3 vb (keysOf p fn).length f.vals, var 63 b10 (nth p.fFuncs.xs fn), var 41 bo (⟨p, ⟨Am, cm, ss2⟩, ⟨A3, c3, (M.leaks ++ [(⟨2, x, 0⟩ : ApiLeak)])⟩, ((F : Int) - ((M.steps + 1 : Nat) : Int)), 0, false⟩ : Palingslaw08Own), own 86 A3 (M.leaks ++ [(⟨2, x, 0⟩ : ApiLeak)]).length c3 (M.leaks ++ [(⟨2, x, 0⟩ : ApiLeak)]), own 45 Am ss2.length cm ss2, rws 2 ss2]) (PSub.eq (by rw [List.length_append]; rfl)) ?_
            refine s_stB (⟨p, ⟨Am, cm, ss2⟩, ⟨A3, c3, M.leaks ++ [(⟨2, x, 0⟩ : ApiLeak)]⟩, (F : Int) - ((M.steps + 1 : Nat) : Int), 4, false⟩ : Palingslaw08Own) rfl rfl (by rfl) (by decide) ?_
            (repeat' (first | refine s_assign ?_ | refine s_nil ?_ | (refine k_C ?_; first | refine s_seq ?_ | refine s_region ?_ | refine s_ret ?_) | (refine k_E ?_; first | refine e_seq ?_ | refine e_seq_ret ?_ | refine e_bk_ret ?_ | refine e_lp_ret ?_)))
            have hd := do_wild (p := p) (M := M) (base := base) (f := f) (.inr ho) hx0 (by rw [← rows_nth hs2 ha1]; exact hin)
            exact e_done2 rfl rfl rfl [var 41 bo (⟨p, ⟨Am, cm, ss2⟩, ⟨A3, c3, (M.leaks ++ [(⟨2, x, 0⟩ : ApiLeak)])⟩, ((F : Int) - ((M.steps + 1 : Nat) : Int)), 4, false⟩ : Palingslaw08Own), own 86 A3 (M.leaks ++ [(⟨2, x, 0⟩ : ApiLeak)]).length c3 (M.leaks ++ [(⟨2, x, 0⟩ : ApiLeak)]), own 45 Am ss2.length cm ss2, rws 2 ss2] (PSub.take [3, 3, 3, 3] (by kernel_rfl)) ⟨0, false, ss2, A3, c3, (M.leaks ++ [(⟨2, x, 0⟩ : ApiLeak)]), _, _, _, rfl, rfl, by rw [hs2]; exact hr.trapI hG hW hlt hatN (by rw [hins]; exact hd) (by omega)⟩
          ·
            (repeat' (first | refine s_move ?_ | refine s_assign ?_ | refine s_nil ?_ | (refine k_C ?_; first | refine s_seq ?_ | refine s_region ?_ | refine s_skip ?_ | (refine s_ifd rfl ?_ ?_ <;> intro hc <;> try (exfalso; omega))) | (refine k_E ?_; refine e_seq ?_) | (refine k_load ?_; first | refine s_ldB rfl rfl ?_ | refine s_ldS rfl rfl om rfl ?_) | (refine k_bin ?_; refine s_eql rfl rfl ?_) | (refine k_fld ?_; refine s_fldB rfl ?_) | (refine k_idx ?_; refine s_idxS rfl rfl om ?_) | (refine k_guard ?_; first | refine s_on rfl rfl ?_ | (refine s_casesd rfl rfl ?_ ?_ <;> intro hc <;> try (exfalso; omega))) | refine s_lookW rfl rfl ?_ | refine s_pick rfl ?_ | refine s_nilck rfl ?_))
            rw [show (f.vals (nth (nth (nth (nth p.fFuncs.xs fn).fBlocks.xs blk).fIns.xs f.at_).fArgs.xs 0)).getD EW.zero = x from hx.symm]
            refine s_bld (⟨2, x, 0⟩ : ApiLeak) (by kernel_rfl) ?_
            (repeat' (first | (refine k_fld ?_; refine s_fldB rfl ?_) | refine s_nilck rfl ?_ | (refine s_app1 _ (fun _ => rfl) rfl om ?_; intro v A c)))
            obtain ⟨A3, rfl⟩ : ∃ q, q = A := ⟨_, rfl⟩
            obtain ⟨c3, rfl⟩ : ∃ q, q = c := ⟨_, rfl⟩
            refine s_stB (⟨p, ⟨Am, cm, ss2⟩, ⟨A3, c3, M.leaks ++ [(⟨2, x, 0⟩ : ApiLeak)]⟩, (F : Int) - ((M.steps + 1 : Nat) : Int), 0, false⟩ : Palingslaw08Own) rfl rfl (by simp only [Enc.enc, List.length_append]; rfl) (by decide) ?_
            (repeat' (first | refine s_move ?_ | refine s_nil ?_ | (refine k_C ?_; first | refine s_seq ?_ | refine s_region ?_ | refine s_stillP foI rfl (by kernel_rfl) ?_ | (refine s_ifd rfl ?_ ?_ <;> intro hc <;> try (exfalso; omega))) | (refine k_E ?_; refine e_seq ?_) | (refine k_load ?_; first | refine s_ldB rfl rfl ?_ | refine s_ld rfl om rfl ?_) | (refine k_bin ?_; first | refine s_lss rfl rfl ?_ | refine s_geq rfl rfl ?_) | (refine k_fld ?_; refine s_fldB rfl ?_) | (refine k_idx ?_; refine s_idxI rfl rfl om om ?_) | (refine k_call ?_; refine s_len rfl ?_) | (refine k_guard ?_; first | refine s_on rfl rfl ?_ | (refine s_casesd rfl rfl ?_ ?_ <;> intro hc <;> try (exfalso; omega))) | refine s_pick rfl ?_ | refine s_nilck rfl ?_))
            refine so_sub (L' := [var 51 b16 (nth (nth (nth p.fFuncs.xs fn).fBlocks.xs blk).fIns.xs f.at_), mp EW 3 vb (keysOf p fn).length f.vals, var 63 b10 (nth p.fFuncs.xs fn), var 41 bo (⟨p, ⟨Am, cm, ss2⟩, ⟨A3, c3, (M.leaks ++ [(⟨2, x, 0⟩ : ApiLeak)])⟩, ((F : Int) - ((M.steps + 1 : Nat) : Int)), 0, false⟩ : Palingslaw08Own), own 86 A3 (M.leaks ++ [(⟨2, x, 0⟩ : ApiLeak)]).length c3 (M.leaks ++ [(⟨2, x, 0⟩ : ApiLeak)]), own 45 Am ss2.length cm ss2, rws 2 ss2]) (PSub.eq (by rw [List.length_append]; rfl)) ?_
            refine s_stB (⟨p, ⟨Am, cm, ss2⟩, ⟨A3, c3, M.leaks ++ [(⟨2, x, 0⟩ : ApiLeak)]⟩, (F : Int) - ((M.steps + 1 : Nat) : Int), 4, false⟩ : Palingslaw08Own) rfl rfl (by rfl) (by decide) ?_
            (repeat' (first | refine s_assign ?_ | refine s_nil ?_ | (refine k_C ?_; first | refine s_seq ?_ | refine s_region ?_ | refine s_ret ?_) | (refine k_E ?_; first | refine e_seq ?_ | refine e_seq_ret ?_ | refine e_bk_ret ?_ | refine e_lp_ret ?_)))
            have hd := do_wild (p := p) (M := M) (base := base) (f := f) (.inr ho) hx0 (by rw [← rows_nth hs2 ha1]; exact hin)
            exact e_done2 rfl rfl rfl [var 41 bo (⟨p, ⟨Am, cm, ss2⟩, ⟨A3, c3, (M.leaks ++ [(⟨2, x, 0⟩ : ApiLeak)])⟩, ((F : Int) - ((M.steps + 1 : Nat) : Int)), 4, false⟩ : Palingslaw08Own), own 86 A3 (M.leaks ++ [(⟨2, x, 0⟩ : ApiLeak)]).length c3 (M.leaks ++ [(⟨2, x, 0⟩ : ApiLeak)]), own 45 Am ss2.length cm ss2, rws 2 ss2] (PSub.take [3, 3, 3, 3] (by kernel_rfl)) ⟨0, false, ss2, A3, c3, (M.leaks ++ [(⟨2, x, 0⟩ : ApiLeak)]), _, _, _, rfl, rfl, by rw [hs2]; exact hr.trapI hG hW hlt hatN (by rw [hins]; exact hd) (by omega)⟩
        have hi2 : x.toNat < (nth ss2 (nth (nth (nth p.fFuncs.xs fn).fBlocks.xs blk).fIns.xs f.at_).fArr.toNat).xs.length := by omega
        (repeat' (first | refine s_move ?_ | refine s_assign ?_ | refine s_nil ?_ | (refine k_C ?_; first | refine s_seq ?_ | refine s_region ?_ | refine s_skip ?_ | (refine s_ifd rfl ?_ ?_ <;> intro hc <;> try (exfalso; omega))) | (refine k_E ?_; refine e_seq ?_) | (refine k_load ?_; first | refine s_ldB rfl rfl ?_ | refine s_ldS rfl rfl om rfl ?_) | (refine k_bin ?_; refine s_eql rfl rfl ?_) | (refine k_fld ?_; refine s_fldB rfl ?_) | (refine k_idx ?_; refine s_idxS rfl rfl om ?_) | (refine k_guard ?_; first | refine s_on rfl rfl ?_ | (refine s_casesd rfl rfl ?_ ?_ <;> intro hc <;> try (exfalso; omega))) | refine s_lookW rfl rfl ?_ | refine s_pick rfl ?_ | refine s_nilck rfl ?_))
        rw [show (f.vals (nth (nth (nth (nth p.fFuncs.xs fn).fBlocks.xs blk).fIns.xs f.at_).fArgs.xs 0)).getD EW.zero = x from hx.symm]
        refine s_bld (⟨2, x, 0⟩ : ApiLeak) (by kernel_rfl) ?_
        (repeat' (first | (refine k_fld ?_; refine s_fldB rfl ?_) | refine s_nilck rfl ?_ | (refine s_app1 _ (fun _ => rfl) rfl om ?_; intro v A c)))
        obtain ⟨A3, rfl⟩ : ∃ q, q = A := ⟨_, rfl⟩
        obtain ⟨c3, rfl⟩ : ∃ q, q = c := ⟨_, rfl⟩
        refine s_stB (⟨p, ⟨Am, cm, ss2⟩, ⟨A3, c3, M.leaks ++ [(⟨2, x, 0⟩ : ApiLeak)]⟩, (F : Int) - ((M.steps + 1 : Nat) : Int), 0, false⟩ : Palingslaw08Own) rfl rfl (by simp only [Enc.enc, List.length_append]; rfl) (by decide) ?_
        (repeat' (first | refine s_move ?_ | refine s_nil ?_ | (refine k_C ?_; first | refine s_seq ?_ | refine s_region ?_ | refine s_stillP foI rfl (by kernel_rfl) ?_ | refine s_skip ?_ | (refine s_ifd rfl ?_ ?_ <;> intro hc <;> try (exfalso; omega))) | (refine k_E ?_; refine e_seq ?_) | (refine k_load ?_; first | refine s_ldB rfl rfl ?_ | refine s_ld rfl om rfl ?_) | (refine k_bin ?_; first | refine s_lss rfl rfl ?_ | refine s_eql rfl rfl ?_ | refine s_geq rfl rfl ?_) | (refine k_fld ?_; refine s_fldB rfl ?_) | (refine k_idx ?_; refine s_idxI rfl rfl om om ?_) | (refine k_call ?_; refine s_len rfl ?_) | (refine k_guard ?_; first | refine s_on rfl rfl ?_ | (refine s_casesd rfl rfl ?_ ?_ <;> intro hc <;> try (exfalso; omega))) | refine s_pick rfl ?_ | refine s_nilck rfl ?_))
        refine s_sub (L' := [var 51 b16 (nth (nth (nth p.fFuncs.xs fn).fBlocks.xs blk).fIns.xs f.at_), mp EW 3 vb (keysOf p fn).length f.vals, var 63 b10 (nth p.fFuncs.xs fn), var 41 bo (⟨p, ⟨Am, cm, ss2⟩, ⟨A3, c3, (M.leaks ++ [(⟨2, x, 0⟩ : ApiLeak)])⟩, ((F : Int) - ((M.steps + 1 : Nat) : Int)), 0, false⟩ : Palingslaw08Own), own 86 A3 (M.leaks ++ [(⟨2, x, 0⟩ : ApiLeak)]).length c3 (M.leaks ++ [(⟨2, x, 0⟩ : ApiLeak)]), own 45 Am ss2.length cm ss2, rws 2 ss2]) (PSub.eq (by rw [List.length_append]; rfl)) ?_
        refine s_tail (F := ?F6) 15 [0, 1, 2, 3, 4, 5, 6, 7, 8, 9, 10, 11, 12, 13, 14] foI (by kernel_rfl) ?hr6 ?hn6
        case hr6 =>
          change sO _ _ _ _ _ _ (_ :: _ :: _ :: _ :: _ :: _ :: _ :: _ :: _ :: _ :: _ :: _ :: _ :: _ :: _ :: []) _ _ _
          (repeat' (first | refine s_move ?_ | refine s_nil ?_ | (refine k_load ?_; first | refine s_ldB rfl rfl ?_ | refine s_ld rfl om rfl ?_ | refine s_ldS rfl rfl om rfl ?_) | (refine k_fld ?_; refine s_fldB rfl ?_) | (refine k_idx ?_; first | refine s_idxI rfl rfl om om ?_ | refine s_idxS rfl rfl om ?_) | refine s_lookW rfl rfl ?_ | refine s_nilck rfl ?_))
          exact e_F
        case hn6 =>
          change sO _ _ _ _ _ _ (_ :: _ :: []) _ _ _
          refine so_sub (L' := [own 2 (nth ss2 (nth (nth (nth p.fFuncs.xs fn).fBlocks.xs blk).fIns.xs f.at_).fArr.toNat).A (nth ss2 (nth (nth (nth p.fFuncs.xs fn).fBlocks.xs blk).fIns.xs f.at_).fArr.toNat).xs.length (nth ss2 (nth (nth (nth p.fFuncs.xs fn).fBlocks.xs blk).fIns.xs f.at_).fArr.toNat).c (nth ss2 (nth (nth (nth p.fFuncs.xs fn).fBlocks.xs blk).fIns.xs f.at_).fArr.toNat).xs, rws 2 (ss2.eraseIdx (nth (nth (nth p.fFuncs.xs fn).fBlocks.xs blk).fIns.xs f.at_).fArr.toNat), var 51 b16 (nth (nth (nth p.fFuncs.xs fn).fBlocks.xs blk).fIns.xs f.at_), mp EW 3 vb (keysOf p fn).length f.vals, var 63 b10 (nth p.fFuncs.xs fn), var 41 bo (⟨p, ⟨Am, cm, ss2⟩, ⟨A3, c3, (M.leaks ++ [(⟨2, x, 0⟩ : ApiLeak)])⟩, ((F : Int) - ((M.steps + 1 : Nat) : Int)), 0, false⟩ : Palingslaw08Own), own 86 A3 (M.leaks ++ [(⟨2, x, 0⟩ : ApiLeak)]).length c3 (M.leaks ++ [(⟨2, x, 0⟩ : ApiLeak)]), own 45 Am ss2.length cm ss2]) ((PSub.take [6, 0, 0, 0, 0, 0, 0] rfl).trans (PSub.rowOut (by omega))) ?_
          (repeat' (first | refine s_move ?_ | refine s_nil ?_ | (refine k_C ?_; first | refine s_seq ?_ | refine s_region ?_ | refine s_skip ?_ | (refine s_ifd rfl ?_ ?_ <;> intro hc <;> try (exfalso; omega))) | (refine k_E ?_; first | refine e_seq ?_ | refine e_bk ?_) | (refine k_load ?_; refine s_ldB rfl rfl ?_) | (refine k_bin ?_; first | refine s_add1 rfl rfl om ?_ | refine s_eql rfl rfl ?_) | (refine k_fld ?_; refine s_fldB rfl ?_) | (refine k_idx ?_; refine s_idxI rfl rfl om om ?_) | (refine k_store ?_; refine s_st _ rfl rfl om ?_)))
          have hys : ((nth ss2 (nth (nth (nth p.fFuncs.xs fn).fBlocks.xs blk).fIns.xs f.at_).fArr.toNat).xs.set x.toNat (getV f.vals (nth (nth (nth (nth p.fFuncs.xs fn).fBlocks.xs blk).fIns.xs f.at_).fArgs.xs 1))).length = (nth ss2 (nth (nth (nth p.fFuncs.xs fn).fBlocks.xs blk).fIns.xs f.at_).fArr.toNat).xs.length := List.length_set
          refine e_lp (upM M base f (M.leaks ++ [(⟨2, x, 0⟩ : ApiLeak)]) (M.mem.set (nth (nth (nth p.fFuncs.xs fn).fBlocks.xs blk).fIns.xs f.at_).fArr.toNat ((M.row (nth (nth (nth p.fFuncs.xs fn).fBlocks.xs blk).fIns.xs f.at_).fArr.toNat).set x.toNat (getV f.vals (nth (nth (nth (nth p.fFuncs.xs fn).fBlocks.xs blk).fIns.xs f.at_).fArgs.xs 1)))) f.vals, nxF f f.vals, A3, c3, ss2.set (nth (nth (nth p.fFuncs.xs fn).fBlocks.xs blk).fIns.xs f.at_).fArr.toNat ⟨(nth ss2 (nth (nth (nth p.fFuncs.xs fn).fBlocks.xs blk).fIns.xs f.at_).fArr.toNat).A, (nth ss2 (nth (nth (nth p.fFuncs.xs fn).fBlocks.xs blk).fIns.xs f.at_).fArr.toNat).c, (nth ss2 (nth (nth (nth p.fFuncs.xs fn).fBlocks.xs blk).fIns.xs f.at_).fArr.toNat).xs.set x.toNat (getV f.vals (nth (nth (nth (nth p.fFuncs.xs fn).fBlocks.xs blk).fIns.xs f.at_).fArgs.xs 1))⟩) (by repeat (first | exact trivial | refine ⟨rfl, ?_⟩)) ⟨hr.up hG hW hlt hatN (by rw [hins]; exact do_store ho hx0 hy0 (by rw [← rows_nth hs2 ha1]; exact hin)), hfb2, hatl, by dsimp only; rw [rows_set hs2, rows_nth hs2 ha1]; rfl, by show M1.steps ≤ M.steps + 1; omega⟩ (by show (nth (nth p.fFuncs.xs fn).fBlocks.xs blk).fIns.xs.length - (f.at_ + 1) < (nth (nth p.fFuncs.xs fn).fBlocks.xs blk).fIns.xs.length - f.at_; omega) ((PSub.rowIn (ss := ss2) (by omega) hys).trans ((PSub.take [2, 2, 2, 2, 2, 0] rfl).trans (PSub.eq ?_)))
          dsimp only
          rw [← own_setRow hys, ow_mem (xs := ss2) (ys := ss2.set (nth (nth (nth p.fFuncs.xs fn).fBlocks.xs blk).fIns.xs f.at_).fArr.toNat ⟨(nth ss2 (nth (nth (nth p.fFuncs.xs fn).fBlocks.xs blk).fIns.xs f.at_).fArr.toNat).A, (nth ss2 (nth (nth (nth p.fFuncs.xs fn).fBlocks.xs blk).fIns.xs f.at_).fArr.toNat).c, (nth ss2 (nth (nth (nth p.fFuncs.xs fn).fBlocks.xs blk).fIns.xs f.at_).fArr.toNat).xs.set x.toNat (getV f.vals (nth (nth (nth (nth p.fFuncs.xs fn).fBlocks.xs blk).fIns.xs f.at_).fArgs.xs 1))⟩) (by rw [List.length_set])]
          rfl
        --}
      ·
        --{
        obtain ⟨hq0, hq1, hq2, hq3⟩ := hi.fn ho
        have hfc : (nth (nth (nth p.fFuncs.xs fn).fBlocks.xs blk).fIns.xs f.at_).fFn = (((nth (nth (nth p.fFuncs.xs fn).fBlocks.xs blk).fIns.xs f.at_).fFn.toNat : Nat) : Int) := by omega
        have hbl : base.length + 1 < 2000 := by omega
        have h1 : stepM p { M with steps := M.steps + 1 } = some (inM p M base f (nth (nth (nth p.fFuncs.xs fn).fBlocks.xs blk).fIns.xs f.at_)) := (hr.stepI hatN).trans (by rw [hins]; exact do_call ho hbl)
        obtain ⟨hgo, hok, hss⟩ := hr.any hG hW h1
        (repeat' (first | refine s_move ?_ | refine s_assign ?_ | refine s_nil ?_ | (refine k_C ?_; first | refine s_seq ?_ | refine s_region ?_ | refine s_skip ?_ | refine s_block ?_ | (refine s_ifd rfl ?_ ?_ <;> intro hc <;> try (exfalso; omega))) | (refine k_E ?_; refine e_seq ?_) | (refine k_load ?_; refine s_ldB rfl rfl ?_) | (refine k_bin ?_; refine s_eql rfl rfl ?_) | (refine k_fld ?_; refine s_fldB rfl ?_) | (refine k_call ?_; refine s_len rfl ?_) | (refine k_guard ?_; first | refine s_on rfl rfl ?_ | (refine s_casesd rfl rfl ?_ ?_ <;> intro hc <;> try (exfalso; omega))) | refine s_pick rfl ?_ | (refine s_lit [] rfl (by decide) rfl ?_; intro b)))
        refine s_loop (σ := Nat × Option Addr × Nat × List Int) (fun q => [(0, .pointer (some ⟨bo, 0, none⟩)), (3, .int .i64 (base.length : Nat)), (10, .pointer (some ⟨b10, 0, none⟩)), (11, .map (some vb)), (14, .int .i64 (blk : Nat)), (16, .pointer (some ⟨b16, 0, none⟩)), (22, .slice q.2.1 q.2.2.2.length q.2.2.1), (72, .slice (nth (nth p.fFuncs.xs fn).fBlocks.xs blk).fIns.A (nth (nth p.fFuncs.xs fn).fBlocks.xs blk).fIns.xs.length (nth (nth p.fFuncs.xs fn).fBlocks.xs blk).fIns.c), (73, .int .i64 (nth (nth p.fFuncs.xs fn).fBlocks.xs blk).fIns.xs.length), (74, .int .i64 (f.at_ : Nat)), (268, .slice (nth (nth (nth p.fFuncs.xs fn).fBlocks.xs blk).fIns.xs f.at_).fArgs.A (nth (nth (nth p.fFuncs.xs fn).fBlocks.xs blk).fIns.xs f.at_).fArgs.xs.length (nth (nth (nth p.fFuncs.xs fn).fBlocks.xs blk).fIns.xs f.at_).fArgs.c), (269, .int .i64 (nth (nth (nth p.fFuncs.xs fn).fBlocks.xs blk).fIns.xs f.at_).fArgs.xs.length), (270, .int .i64 (q.1 : Nat))])
          (fun q => [own 2 q.2.1 q.2.2.2.length q.2.2.1 q.2.2.2, var 51 b16 (nth (nth (nth p.fFuncs.xs fn).fBlocks.xs blk).fIns.xs f.at_), mp EW 3 vb (keysOf p fn).length f.vals, var 63 b10 (nth p.fFuncs.xs fn), var 41 bo (⟨p, ⟨Am, cm, ss2⟩, ⟨Al2, cl2, M.leaks⟩, ((F : Int) - ((M.steps + 1 : Nat) : Int)), 0, false⟩ : Palingslaw08Own), own 86 Al2 M.leaks.length cl2 M.leaks, own 45 Am ss2.length cm ss2, rws 2 ss2])
          (fun q => q.1 ≤ (nth (nth (nth p.fFuncs.xs fn).fBlocks.xs blk).fIns.xs f.at_).fArgs.xs.length ∧ q.2.2.2 = ((nth (nth (nth p.fFuncs.xs fn).fBlocks.xs blk).fIns.xs f.at_).fArgs.xs.take q.1).map (getV f.vals)) (fun q => (nth (nth (nth p.fFuncs.xs fn).fBlocks.xs blk).fIns.xs f.at_).fArgs.xs.length - q.1) (0, some ⟨b, 0, none⟩, 0, []) (by repeat (first | exact trivial | refine ⟨rfl, ?_⟩)) ⟨Nat.zero_le _, rfl⟩ PSub.refl ?_
        rintro g3 ⟨k, A5, c5, ys⟩ ⟨hk, hy⟩
        dsimp only at hk hy ⊢
        (repeat' (first | refine s_nil ?_ | (refine k_C ?_; first | refine s_seq ?_ | refine s_region ?_) | (refine k_E ?_; refine e_seq ?_) | (refine k_bin ?_; refine s_lss rfl rfl ?_)))
        (first | (refine k_C ?_; (refine s_ifd rfl ?_ ?_ <;> intro hc <;> try (exfalso; omega))))
        · have hkl : k < (nth (nth (nth p.fFuncs.xs fn).fBlocks.xs blk).fIns.xs f.at_).fArgs.xs.length := by omega
          have hyl : ys.length = k := by rw [hy, List.length_map, List.length_take]; omega
          (repeat' (first | refine s_move ?_ | refine s_assign ?_ | refine s_nil ?_ | (refine k_C ?_; first | refine s_seq ?_ | refine s_region ?_ | refine s_skip ?_ | refine s_block ?_) | (refine k_E ?_; first | refine e_seq ?_ | refine e_bk ?_) | (refine k_load ?_; refine s_ldS rfl rfl om rfl ?_) | (refine k_bin ?_; refine s_add1 rfl rfl om ?_) | (refine k_idx ?_; refine s_idxS rfl rfl om ?_) | refine s_lookW rfl rfl ?_ | (refine s_app1 _ (fun _ => rfl) rfl om ?_; intro v A c)))
          obtain ⟨A6, rfl⟩ : ∃ q, q = A := ⟨_, rfl⟩
          obtain ⟨c6, rfl⟩ : ∃ q, q = c := ⟨_, rfl⟩
          rw [show ys.length + 1 = (ys ++ [getV f.vals (nth (nth (nth (nth p.fFuncs.xs fn).fBlocks.xs blk).fIns.xs f.at_).fArgs.xs k)]).length by rw [List.length_append]; rfl]
          exact e_lp (k + 1, A6, c6, ys ++ [getV f.vals (nth (nth (nth (nth p.fFuncs.xs fn).fBlocks.xs blk).fIns.xs f.at_).fArgs.xs k)]) (by repeat (first | exact trivial | refine ⟨rfl, ?_⟩)) ⟨by show k + 1 ≤ _; omega, by show ys ++ [_] = ((nth (nth (nth p.fFuncs.xs fn).fBlocks.xs blk).fIns.xs f.at_).fArgs.xs.take (k + 1)).map _; rw [← takeN hkl, List.map_append, hy]; rfl⟩ (by show _ - _ < _ - _; omega) PSub.refl
        have hkE : k = (nth (nth (nth p.fFuncs.xs fn).fBlocks.xs blk).fIns.xs f.at_).fArgs.xs.length := by omega
        subst hkE
        rw [List.take_length] at hy
        have hrun2 : RunS p F (inM p M base f (nth (nth (nth p.fFuncs.xs fn).fBlocks.xs blk).fIns.xs f.at_)) (base ++ [nxF f f.vals]) (nth (nth (nth p.fFuncs.xs fn).fBlocks.xs blk).fIns.xs f.at_).fFn.toNat (nth (nth (nth p.fFuncs.xs fn).fBlocks.xs blk).fIns.xs f.at_).fDst (inM p M base f (nth (nth (nth p.fFuncs.xs fn).fBlocks.xs blk).fIns.xs f.at_)) ⟨(nth (nth (nth p.fFuncs.xs fn).fBlocks.xs blk).fIns.xs f.at_).fFn.toNat, 0, 0, putAll (parsF p (nth (nth (nth p.fFuncs.xs fn).fBlocks.xs blk).fIns.xs f.at_).fFn.toNat) ys fun _ => none, (nth (nth (nth p.fFuncs.xs fn).fBlocks.xs blk).fIns.xs f.at_).fDst⟩ := ⟨⟨0, rfl⟩, hok, by rw [hy]; rfl, rfl, rfl, hr.fin, hr.trap, hr.val, by rw [hss]; omega⟩
        have hspec := (ih (nth (nth (nth p.fFuncs.xs fn).fBlocks.xs blk).fIns.xs f.at_).fFn.toNat ⟨A5, c5, ys⟩ (base ++ [nxF f f.vals]) (inM p M base f (nth (nth (nth p.fFuncs.xs fn).fBlocks.xs blk).fIns.xs f.at_)) (nth (nth (nth p.fFuncs.xs fn).fBlocks.xs blk).fIns.xs f.at_).fDst ss2 Al2 cl2 (by rw [app_len]; omega) (by omega) (by show _ ≤ ys.length; rw [hy, List.length_map, hq3]; exact Nat.le_refl _) hrun2 (by rw [app_len]; exact Nat.le_max_right _ _) hs2).weaken (RR' := fun v L' => (∃ z M2 ss3 Al3 cl3, RunS p F M0 base fn dst M2 (nxF f (putF f.vals (nth (nth (nth p.fFuncs.xs fn).fBlocks.xs blk).fIns.xs f.at_).fDst z)) ∧ ss3.map (·.xs) = M2.mem ∧ M.steps < M2.steps ∧ v = .tuple #[.int .i64 z, .bool true] ∧ L' = [var 41 bo (⟨p, ⟨Am, cm, ss3⟩, ⟨Al3, cl3, M2.leaks⟩, ((F : Int) - (M2.steps : Int)), 0, false⟩ : Palingslaw08Own), own 86 Al3 M2.leaks.length cl3 M2.leaks, own 45 Am ss3.length cm ss3, rws 2 ss3]) ∨
            (∃ z ss3 Al3 cl3 lk3 left3 trap3 sp3, v = .tuple #[.int .i64 z, .bool false] ∧ L' = [var 41 bo (⟨p, ⟨Am, cm, ss3⟩, ⟨Al3, cl3, lk3⟩, left3, trap3, sp3⟩ : Palingslaw08Own), own 86 Al3 lk3.length cl3 lk3, own 45 Am ss3.length cm ss3, rws 2 ss3] ∧ OwnR p F M0 base dst 0 false (ss3.map (·.xs)) lk3 left3 trap3 sp3)) (fun _ _ h => h) (by
          rintro v L' ⟨z, goes, ss3, Al3, cl3, lk3, left3, trap3, sp3, rfl, rfl, hown⟩
          cases goes with
          | true =>
            obtain ⟨M2, q1, q2, q3, q4, q5, q6, q7⟩ := hr.called hG hW hlt hatN (by rw [hins]; exact ho) hbl (by rw [hins]; exact hown)
            rw [hins] at q1
            subst q3 q4 q5 q6
            exact .inl ⟨z, M2, ss3, Al3, cl3, q1, q2.symm, q7, rfl, rfl⟩
          | false =>
            exact .inr ⟨z, ss3, Al3, cl3, lk3, left3, trap3, sp3, rfl, rfl, hr.callEnd hG hW hlt hatN (by rw [hins]; exact ho) hbl (by rw [hins]; exact hown)⟩)
        (repeat' (first | refine s_move ?_ | (refine k_C ?_; first | refine s_seq ?_ | refine s_region ?_ | refine s_exit ?_) | (refine k_E ?_; first | refine e_seq ?_ | refine e_seq_exit ?_ | refine e_bk_exit ?_ | refine e_lp_exit ?_) | (refine k_load ?_; refine s_ldB rfl rfl ?_) | (refine k_bin ?_; refine s_add1 rfl rfl om ?_) | (refine k_fld ?_; refine s_fldB rfl ?_)))
        refine s_call (L2 := [own 2 A5 ys.length c5 ys, var 51 b16 (nth (nth (nth p.fFuncs.xs fn).fBlocks.xs blk).fIns.xs f.at_), mp EW 3 vb (keysOf p fn).length f.vals, var 63 b10 (nth p.fFuncs.xs fn)]) [4, 4, 4, 4] hspec (by show [_, Value.int .i64 (nth (nth (nth p.fFuncs.xs fn).fBlocks.xs blk).fIns.xs f.at_).fFn, _, Value.int .i64 ((base.length + 1 : Nat) : Int)] = _; rw [hfc, ← app_len (base := base) (f := nxF f f.vals)]; rfl) rfl (fun w1 f1 C => ⟨C.rd (by infer_instance), C.ownI A5 fun x hx => by rw [hy] at hx; obtain ⟨q, _, rfl⟩ := List.mem_map.1 hx; exact hwf _⟩) ?_
        rintro v L' (⟨z, M2, ss3, Al3, cl3, hr2, hs3, hst3, rfl, rfl⟩ | ⟨z, ss3, Al3, cl3, lk3, left3, trap3, sp3, rfl, rfl, hown⟩)
        · have hzw : wfi z := by
            have := hr2.frm.wf (nth (nth (nth p.fFuncs.xs fn).fBlocks.xs blk).fIns.xs f.at_).fDst
            show wfi z
            have e : getV (nxF f (putF f.vals (nth (nth (nth p.fFuncs.xs fn).fBlocks.xs blk).fIns.xs f.at_).fDst z)).vals (nth (nth (nth p.fFuncs.xs fn).fBlocks.xs blk).fIns.xs f.at_).fDst = z := by show getV (putF f.vals _ z) _ = z; rw [getV_put, if_pos rfl]
            rwa [e] at this
          (repeat' (first | refine s_move ?_ | refine s_assign ?_ | refine s_nil ?_ | (refine k_C ?_; first | refine s_seq ?_ | refine s_region ?_ | refine s_skip ?_ | refine s_iff rfl ?_) | (refine k_E ?_; refine e_seq ?_) | (refine k_load ?_; refine s_ldB rfl rfl ?_) | (refine k_fld ?_; refine s_fldB rfl ?_) | refine s_not rfl ?_ | refine s_extract rfl rfl ?_))
          refine s_put (yv := z) rfl rfl rfl hdw (wfi_iff.1 hzw) (by omega) ?_
          (repeat' (first | refine s_move ?_ | refine s_nil ?_ | (refine k_C ?_; refine s_region ?_) | (refine k_E ?_; first | refine e_seq ?_ | refine e_bk ?_) | (refine k_bin ?_; refine s_add1 rfl rfl om ?_)))
          exact e_lp (M2, nxF f (putF f.vals (nth (nth (nth p.fFuncs.xs fn).fBlocks.xs blk).fIns.xs f.at_).fDst z), Al3, cl3, ss3) (by repeat (first | exact trivial | refine ⟨rfl, ?_⟩)) ⟨hr2, hfb2, hatl, hs3, by show M1.steps ≤ M2.steps; omega⟩ (by show (nth (nth p.fFuncs.xs fn).fBlocks.xs blk).fIns.xs.length - (f.at_ + 1) < (nth (nth p.fFuncs.xs fn).fBlocks.xs blk).fIns.xs.length - f.at_; omega) ((PSub.take [6, 6, 0, 0, 0, 0] rfl).trans (PSub.mpCut (keysOf p fn) U_3 (hkd _ (hda (by omega)))))
        · (repeat' (first | refine s_move ?_ | refine s_assign ?_ | refine s_nil ?_ | (refine k_C ?_; first | refine s_seq ?_ | refine s_region ?_ | refine s_ret ?_ | refine s_ift rfl ?_) | (refine k_E ?_; first | refine e_seq ?_ | refine e_seq_ret ?_ | refine e_bk_ret ?_ | refine e_lp_ret ?_) | refine s_not rfl ?_ | refine s_extract rfl rfl ?_))
          exact e_done2 rfl rfl rfl _ (PSub.take [0, 0, 0, 0] rfl) ⟨0, false, ss3, Al3, cl3, lk3, _, _, _, rfl, rfl, hown⟩
        --}
    · have hatE : f.at_ = (nth (nth p.fFuncs.xs fn).fBlocks.xs blk).fIns.xs.length := by omega
      have hatN : f.at_ = insN p f := by unfold insN; rw [hr.fn, hfb2]; exact hatE
      have hle : (F : Int) - (M.steps : Int) - 1 = (F : Int) - ((M.steps + 1 : Nat) : Int) := by omega
      have hfr := hr.frm
      have hwf : ∀ u, wfi (getV f.vals u) := hfr.wf
      have hkey : ∀ u, f.vals u ≠ none → u ∈ keysOf p fn := fun u hu => by have := hfr.keys u hu; rwa [hr.fn] at this
      have hendE : (nth (nth p.fFuncs.xs fn).fBlocks.xs blk).fEnd = (nth (nth p.fFuncs.xs f.fn).fBlocks.xs f.block).fEnd := by rw [hr.fn, hfb2]
      obtain ⟨⟨⟨hk1, hk4⟩, hwl, htr, hvl, hv0⟩, hws⟩ : endP (nth (nth p.fFuncs.xs fn).fBlocks.xs blk).fEnd ∧ ∀ w ∈ (nth (nth p.fFuncs.xs fn).fBlocks.xs blk).fEnd.fWays.xs, wayB (nth p.fFuncs.xs fn) w = true := by
        have he := hG.ends fn hfn blk hblk
        unfold endsB endB at he
        rw [Bool.and_eq_true, List.all_eq_true, decide_eq_true_eq] at he
        exact he
      (repeat' (first | refine s_move ?_ | (refine k_C ?_; first | refine s_seq ?_ | refine s_region ?_ | refine s_exit ?_) | (refine k_E ?_; first | refine e_seq ?_ | refine e_seq_exit ?_ | refine e_bk_exit ?_ | refine e_lp_exit ?_) | (refine k_load ?_; refine s_ldB rfl rfl ?_) | (refine k_bin ?_; refine s_sub64 rfl rfl om ?_) | (refine k_fld ?_; refine s_fldB rfl ?_) | refine s_nilck rfl ?_))
      refine s_stB (⟨p, ⟨Am, cm, ss2⟩, ⟨Al2, cl2, M.leaks⟩, (F : Int) - ((M.steps + 1 : Nat) : Int), 0, false⟩ : Palingslaw08Own) rfl rfl (by rw [← hle]; rfl) (by decide) ?_
      (repeat' (first | refine s_move ?_ | refine s_nil ?_ | (refine k_C ?_; first | refine s_seq ?_ | refine s_region ?_) | (refine k_E ?_; refine e_seq ?_) | (refine k_load ?_; refine s_ldB rfl rfl ?_) | (refine k_bin ?_; refine s_lss rfl rfl ?_) | (refine k_fld ?_; refine s_fldB rfl ?_) | refine s_nilck rfl ?_))
      (first | (refine k_C ?_; (refine s_ifd rfl ?_ ?_ <;> intro hc <;> try (exfalso; omega))))
      ·
        --{
        have hsp : F ≤ M.steps := by have hc2 : (F : Int) - ((M.steps + 1 : Nat) : Int) < 0 := hc
                                     omega
        (repeat' (first | refine s_move ?_ | (refine k_C ?_; first | refine s_seq ?_ | refine s_region ?_) | (refine k_fld ?_; refine s_fldB rfl ?_) | refine s_nilck rfl ?_))
        refine s_stB (⟨p, ⟨Am, cm, ss2⟩, ⟨Al2, cl2, M.leaks⟩, (F : Int) - ((M.steps + 1 : Nat) : Int), 0, true⟩ : Palingslaw08Own) rfl rfl (by rfl) (by decide) ?_
        (repeat' (first | refine s_assign ?_ | refine s_nil ?_ | (refine k_C ?_; first | refine s_seq ?_ | refine s_region ?_ | refine s_ret ?_) | (refine k_E ?_; first | refine e_seq ?_ | refine e_seq_ret ?_ | refine e_bk_ret ?_ | refine e_lp_ret ?_)))
        exact e_done2 rfl rfl rfl _ (PSub.take [2, 2, 2, 2] rfl) ⟨0, false, ss2, Al2, cl2, M.leaks, _, _, _, rfl, rfl, hr.spent hsp⟩
        --}
      have hlt : M.steps < F := by have hc2 : ¬ (F : Int) - ((M.steps + 1 : Nat) : Int) < 0 := hc
                                   omega
      clear hc
      (repeat' (first | refine s_move ?_ | refine s_nil ?_ | (refine k_C ?_; first | refine s_seq ?_ | refine s_region ?_ | refine s_skip ?_) | (refine k_E ?_; refine e_seq ?_) | (refine k_load ?_; first | refine s_ldB rfl rfl ?_ | refine s_ldSFA rfl rfl om (by decide) ?_) | (refine k_fld ?_; first | refine s_fld rfl ?_ | refine s_fldB rfl ?_) | (refine k_idx ?_; refine s_idxS rfl rfl om ?_) | (refine k_store ?_; refine s_stW _ rfl rfl ?_) | (refine s_alloc ?_; intro b)))
      obtain ⟨b27, rfl⟩ : ∃ q, q = b := ⟨_, rfl⟩
      refine s_bld (Enc.dflt : SsaEdge) (by kernel_rfl) ?_
      (repeat' (first | refine s_assign ?_ | refine s_nil ?_ | (refine k_C ?_; first | refine s_seq ?_ | refine s_region ?_ | refine s_block ?_) | (refine k_E ?_; refine e_seq ?_) | (refine k_load ?_; refine s_ldB rfl rfl ?_) | (refine k_bin ?_; refine s_eql rfl rfl ?_) | (refine k_fld ?_; refine s_fldB rfl ?_) | (refine k_store ?_; refine s_stW _ rfl rfl ?_) | (refine s_alloc ?_; intro b)))
      obtain ⟨b28, rfl⟩ : ∃ q, q = b := ⟨_, rfl⟩
      refine s_cutE (σ := Nat × Option Addr × Nat × List ApiLeak) (fun q => [(0, .pointer (some ⟨bo, 0, none⟩)), (3, .int .i64 (base.length : Nat)), (10, .pointer (some ⟨b10, 0, none⟩)), (11, .map (some vb)), (28, .pointer (some ⟨b28, 0, none⟩))])
        (fun q => [var 55 b28 (nth (nth (nth p.fFuncs.xs fn).fBlocks.xs blk).fEnd.fWays.xs q.1), mp EW 3 vb (keysOf p fn).length f.vals, var 63 b10 (nth p.fFuncs.xs fn), var 41 bo (⟨p, ⟨Am, cm, ss2⟩, ⟨q.2.1, q.2.2.1, q.2.2.2⟩, ((F : Int) - ((M.steps + 1 : Nat) : Int)), 0, false⟩ : Palingslaw08Own), own 86 q.2.1 q.2.2.2.length q.2.2.1 q.2.2.2, own 45 Am ss2.length cm ss2, rws 2 ss2])
        (fun q => q.1 < (nth (nth p.fFuncs.xs fn).fBlocks.xs blk).fEnd.fWays.xs.length ∧ (((nth (nth p.fFuncs.xs fn).fBlocks.xs blk).fEnd.fKind = 1 ∧ q.1 = 0 ∧ q.2.2.2 = M.leaks) ∨ ((nth (nth p.fFuncs.xs fn).fBlocks.xs blk).fEnd.fKind = 2 ∧ q.1 = (1 - if getV f.vals (nth (nth p.fFuncs.xs fn).fBlocks.xs blk).fEnd.fVal ≠ 0 then 1 else 0 : Int).toNat ∧ q.2.2.2 = M.leaks ++ [⟨1, if getV f.vals (nth (nth p.fFuncs.xs fn).fBlocks.xs blk).fEnd.fVal ≠ 0 then 1 else 0, 0⟩]))) ?_ ?_
      ·
        --{
        have hks : (nth (nth p.fFuncs.xs fn).fBlocks.xs blk).fEnd.fKind = 1 ∨ (nth (nth p.fFuncs.xs fn).fBlocks.xs blk).fEnd.fKind = 2 ∨ (nth (nth p.fFuncs.xs fn).fBlocks.xs blk).fEnd.fKind = 3 ∨ (nth (nth p.fFuncs.xs fn).fBlocks.xs blk).fEnd.fKind = 4 := by omega
        rcases hks with hk | hk | hk | hk
        · have hl1 : ((nth (nth p.fFuncs.xs fn).fBlocks.xs blk).fEnd.fWays.xs.length : Int) = 1 := by rw [hwl, hk]; rfl
          (repeat' (first | refine s_assign ?_ | refine s_nil ?_ | (refine k_C ?_; first | refine s_seq ?_ | refine s_region ?_ | (refine s_ifd rfl ?_ ?_ <;> intro hc <;> try (exfalso; omega))) | (refine k_E ?_; refine e_seq ?_) | (refine k_load ?_; first | refine s_ldB rfl rfl ?_ | refine s_ldSA rfl rfl om rfl ?_) | (refine k_bin ?_; refine s_eql rfl rfl ?_) | (refine k_fld ?_; refine s_fldB rfl ?_) | (refine k_idx ?_; refine s_idxS rfl rfl om ?_) | (refine k_store ?_; refine s_stW _ rfl rfl ?_)))
          exact e_ct (0, Al2, cl2, M.leaks) (by repeat (first | exact trivial | refine ⟨rfl, ?_⟩)) ⟨by show 0 < _; omega, .inl ⟨hk, rfl, rfl⟩⟩ (PSub.take [0, 1, 1, 1, 1, 1, 1] rfl)
        · have hl2 : ((nth (nth p.fFuncs.xs fn).fBlocks.xs blk).fEnd.fWays.xs.length : Int) = 2 := by rw [hwl, hk]; rfl
          (repeat' (first | refine s_move ?_ | refine s_assign ?_ | refine s_nil ?_ | (refine k_C ?_; first | refine s_seq ?_ | refine s_region ?_ | (refine s_ifd rfl ?_ ?_ <;> intro hc <;> try (exfalso; omega))) | (refine k_E ?_; refine e_seq ?_) | (refine k_load ?_; refine s_ldB rfl rfl ?_) | (refine k_bin ?_; first | refine s_eql rfl rfl ?_ | refine s_neq rfl rfl ?_) | (refine k_fld ?_; refine s_fldB rfl ?_) | refine s_lookW rfl rfl ?_))
          refine s_call0 (bool_spec _) rfl (fun _ _ => trivial) ?_
          rintro v L' ⟨rfl, rfl⟩
          obtain ⟨y, hy1, hy2, hy3⟩ : ∃ y : Nat, y ≤ 1 ∧ boolW (!decide (getV f.vals (nth (nth p.fFuncs.xs fn).fBlocks.xs blk).fEnd.fVal = 0)) = (y : Int) ∧ (if getV f.vals (nth (nth p.fFuncs.xs fn).fBlocks.xs blk).fEnd.fVal ≠ 0 then (1 : Int) else 0) = (y : Int) := by
            by_cases h : getV f.vals (nth (nth p.fFuncs.xs fn).fBlocks.xs blk).fEnd.fVal = 0
            · exact ⟨0, by omega, by rw [decide_eq_true h]; rfl, by rw [if_neg (by simpa using h)]; rfl⟩
            · exact ⟨1, by omega, by rw [decide_eq_false h]; rfl, by rw [if_pos h]; rfl⟩
          change sO _ _ _ _ _ _ _ _ (up _ _ (.int .i64 (boolW (!decide (getV f.vals (nth (nth p.fFuncs.xs fn).fBlocks.xs blk).fEnd.fVal = 0))))) _
          rw [hy2]
          (repeat' (first | refine s_move ?_ | refine s_assign ?_ | refine s_nil ?_ | (refine k_C ?_; first | refine s_seq ?_ | refine s_region ?_) | (refine k_E ?_; refine e_seq ?_) | (refine k_load ?_; refine s_ldB rfl rfl ?_) | (refine k_fld ?_; refine s_fldB rfl ?_) | refine s_nilck rfl ?_))
          refine s_bld (⟨1, y, 0⟩ : ApiLeak) (by kernel_rfl) ?_
          (repeat' (first | (refine k_fld ?_; refine s_fldB rfl ?_) | refine s_nilck rfl ?_ | (refine s_app1 _ (fun _ => rfl) rfl om ?_; intro v A c)))
          obtain ⟨A3, rfl⟩ : ∃ q, q = A := ⟨_, rfl⟩
          obtain ⟨c3, rfl⟩ : ∃ q, q = c := ⟨_, rfl⟩
          refine s_stB (⟨p, ⟨Am, cm, ss2⟩, ⟨A3, c3, M.leaks ++ [(⟨1, y, 0⟩ : ApiLeak)]⟩, (F : Int) - ((M.steps + 1 : Nat) : Int), 0, false⟩ : Palingslaw08Own) rfl rfl (by simp only [Enc.enc, List.length_append]; rfl) (by decide) ?_
          have hy4 : (1 : Int) - (y : Int) = ((1 - y : Nat) : Int) := by omega
          have hy5 : ((1 : Int) - (y : Int)).toNat = 1 - y := by omega
          (repeat' (first | refine s_move ?_ | refine s_nil ?_ | (refine k_C ?_; refine s_region ?_) | (refine k_E ?_; refine e_seq ?_) | (refine k_load ?_; first | refine s_ldB rfl rfl ?_ | refine s_ldSA rfl rfl om rfl ?_) | (refine k_bin ?_; refine s_sub64 rfl rfl om ?_) | (refine k_fld ?_; refine s_fldB rfl ?_) | (refine k_idx ?_; refine s_idxSI rfl rfl om om ?_) | (refine k_store ?_; refine s_stW _ rfl rfl ?_)))
          rw [hy5]
          refine e_ct (1 - y, A3, c3, M.leaks ++ [(⟨1, y, 0⟩ : ApiLeak)]) (by repeat (first | exact trivial | refine ⟨rfl, ?_⟩)) ⟨by show 1 - y < _; omega, .inr ⟨hk, ?_, ?_⟩⟩ ((PSub.take [0, 1, 1, 1, 1, 1, 1] rfl).trans (PSub.eq ?_))
          · rw [hy3]; exact hy5.symm
          · rw [hy3]
          · dsimp only; rw [List.length_append]; rfl
        · (repeat' (first | refine s_move ?_ | refine s_assign ?_ | refine s_nil ?_ | (refine k_C ?_; first | refine s_seq ?_ | refine s_region ?_ | refine s_ret ?_ | (refine s_ifd rfl ?_ ?_ <;> intro hc <;> try (exfalso; omega))) | (refine k_E ?_; first | refine e_seq ?_ | refine e_seq_ret ?_ | refine e_bk_ret ?_ | refine e_lp_ret ?_ | refine e_ct_ret ?_) | (refine k_load ?_; refine s_ldB rfl rfl ?_) | (refine k_fld ?_; refine s_fldB rfl ?_) | refine s_lookW rfl rfl ?_))
          exact e_done2 rfl rfl rfl _ (PSub.take [4, 4, 4, 4] rfl) ⟨getV f.vals (nth (nth p.fFuncs.xs fn).fBlocks.xs blk).fEnd.fVal, true, ss2, Al2, cl2, M.leaks, _, _, _, rfl, rfl, by rw [hs2]; exact hr.back hG hW hlt hatN hendE hk rfl (by omega)⟩
        · (repeat' (first | refine s_move ?_ | refine s_assign ?_ | refine s_nil ?_ | (refine k_C ?_; first | refine s_seq ?_ | refine s_region ?_ | (refine s_ifd rfl ?_ ?_ <;> intro hc <;> try (exfalso; omega))) | (refine k_E ?_; refine e_seq ?_) | (refine k_load ?_; refine s_ldB rfl rfl ?_) | (refine k_bin ?_; refine s_eql rfl rfl ?_) | (refine k_fld ?_; refine s_fldB rfl ?_) | refine s_nilck rfl ?_))
          refine s_stB (⟨p, ⟨Am, cm, ss2⟩, ⟨Al2, cl2, M.leaks⟩, (F : Int) - ((M.steps + 1 : Nat) : Int), (nth (nth p.fFuncs.xs fn).fBlocks.xs blk).fEnd.fTrap, false⟩ : Palingslaw08Own) rfl rfl (by rfl) (by decide) ?_
          (repeat' (first | refine s_assign ?_ | refine s_nil ?_ | (refine k_C ?_; first | refine s_seq ?_ | refine s_region ?_ | refine s_ret ?_) | (refine k_E ?_; first | refine e_seq ?_ | refine e_seq_ret ?_ | refine e_bk_ret ?_ | refine e_lp_ret ?_ | refine e_ct_ret ?_)))
          exact e_done2 rfl rfl rfl _ (PSub.take [4, 4, 4, 4] rfl) ⟨0, false, ss2, Al2, cl2, M.leaks, _, _, _, rfl, rfl, by rw [hs2]; exact hr.endTrap hG hW hlt hatN hendE hk (by omega)⟩
        --}
      ·
        --{
        rintro g3 ⟨w, Al3, cl3, lk⟩ ⟨hw, hcase⟩
        dsimp only at hw hcase ⊢
        have hway := hws _ (nth_mem hw)
        unfold wayB at hway
        simp only [Bool.and_eq_true, decide_eq_true_eq] at hway
        obtain ⟨⟨hto1, hto2⟩, hargs⟩ := hway
        have hto3 : (nth (nth (nth p.fFuncs.xs fn).fBlocks.xs blk).fEnd.fWays.xs w).fTo.toNat < (nth p.fFuncs.xs fn).fBlocks.xs.length := by omega
        have hpar := ((hp.k _ hfn).k _ hto3).p
        have hto : (nth (nth (nth p.fFuncs.xs fn).fBlocks.xs blk).fEnd.fWays.xs w).fTo = (((nth (nth (nth p.fFuncs.xs fn).fBlocks.xs blk).fEnd.fWays.xs w).fTo.toNat : Nat) : Int) := by omega
        (repeat' (first | refine s_move ?_ | refine s_assign ?_ | refine s_nil ?_ | (refine k_C ?_; first | refine s_seq ?_ | refine s_region ?_ | refine s_block ?_) | (refine k_E ?_; first | refine e_seq ?_ | refine e_bk ?_) | (refine k_load ?_; refine s_ldB rfl rfl ?_) | (refine k_fld ?_; refine s_fldB rfl ?_) | (refine k_call ?_; refine s_len rfl ?_) | (refine s_lit [] rfl (by decide) rfl ?_; intro b)))
        refine s_loop (σ := Nat × Option Addr × Nat × List Int) (fun q => [(0, .pointer (some ⟨bo, 0, none⟩)), (3, .int .i64 (base.length : Nat)), (10, .pointer (some ⟨b10, 0, none⟩)), (11, .map (some vb)), (28, .pointer (some ⟨b28, 0, none⟩)), (30, .slice q.2.1 q.2.2.2.length q.2.2.1), (366, .slice (nth (nth (nth p.fFuncs.xs fn).fBlocks.xs blk).fEnd.fWays.xs w).fArgs.A (nth (nth (nth p.fFuncs.xs fn).fBlocks.xs blk).fEnd.fWays.xs w).fArgs.xs.length (nth (nth (nth p.fFuncs.xs fn).fBlocks.xs blk).fEnd.fWays.xs w).fArgs.c), (367, .int .i64 (nth (nth (nth p.fFuncs.xs fn).fBlocks.xs blk).fEnd.fWays.xs w).fArgs.xs.length), (368, .int .i64 (q.1 : Nat))])
          (fun q => [own 2 q.2.1 q.2.2.2.length q.2.2.1 q.2.2.2, var 55 b28 (nth (nth (nth p.fFuncs.xs fn).fBlocks.xs blk).fEnd.fWays.xs w), mp EW 3 vb (keysOf p fn).length f.vals, var 63 b10 (nth p.fFuncs.xs fn), var 41 bo (⟨p, ⟨Am, cm, ss2⟩, ⟨Al3, cl3, lk⟩, ((F : Int) - ((M.steps + 1 : Nat) : Int)), 0, false⟩ : Palingslaw08Own), own 86 Al3 lk.length cl3 lk, own 45 Am ss2.length cm ss2, rws 2 ss2])
          (fun q => q.1 ≤ (nth (nth (nth p.fFuncs.xs fn).fBlocks.xs blk).fEnd.fWays.xs w).fArgs.xs.length ∧ q.2.2.2 = ((nth (nth (nth p.fFuncs.xs fn).fBlocks.xs blk).fEnd.fWays.xs w).fArgs.xs.take q.1).map (getV f.vals)) (fun q => (nth (nth (nth p.fFuncs.xs fn).fBlocks.xs blk).fEnd.fWays.xs w).fArgs.xs.length - q.1) (0, some ⟨b, 0, none⟩, 0, []) (by repeat (first | exact trivial | refine ⟨rfl, ?_⟩)) ⟨Nat.zero_le _, rfl⟩ PSub.refl ?_
        rintro g4 ⟨k, A5, c5, ys⟩ ⟨hk, hy⟩
        dsimp only at hk hy ⊢
        (repeat' (first | refine s_nil ?_ | (refine k_C ?_; first | refine s_seq ?_ | refine s_region ?_) | (refine k_E ?_; refine e_seq ?_) | (refine k_bin ?_; refine s_lss rfl rfl ?_)))
        (first | (refine k_C ?_; (refine s_ifd rfl ?_ ?_ <;> intro hc <;> try (exfalso; omega))))
        · have hkl : k < (nth (nth (nth p.fFuncs.xs fn).fBlocks.xs blk).fEnd.fWays.xs w).fArgs.xs.length := by omega
          have hyl : ys.length = k := by rw [hy, List.length_map, List.length_take]; omega
          (repeat' (first | refine s_move ?_ | refine s_assign ?_ | refine s_nil ?_ | (refine k_C ?_; first | refine s_seq ?_ | refine s_region ?_ | refine s_skip ?_ | refine s_block ?_) | (refine k_E ?_; first | refine e_seq ?_ | refine e_bk ?_) | (refine k_load ?_; refine s_ldS rfl rfl om rfl ?_) | (refine k_bin ?_; refine s_add1 rfl rfl om ?_) | (refine k_idx ?_; refine s_idxS rfl rfl om ?_) | refine s_lookW rfl rfl ?_ | (refine s_app1 _ (fun _ => rfl) rfl om ?_; intro v A c)))
          obtain ⟨A6, rfl⟩ : ∃ q, q = A := ⟨_, rfl⟩
          obtain ⟨c6, rfl⟩ : ∃ q, q = c := ⟨_, rfl⟩
          rw [show ys.length + 1 = (ys ++ [getV f.vals (nth (nth (nth (nth p.fFuncs.xs fn).fBlocks.xs blk).fEnd.fWays.xs w).fArgs.xs k)]).length by rw [List.length_append]; rfl]
          exact e_lp (k + 1, A6, c6, ys ++ [getV f.vals (nth (nth (nth (nth p.fFuncs.xs fn).fBlocks.xs blk).fEnd.fWays.xs w).fArgs.xs k)]) (by repeat (first | exact trivial | refine ⟨rfl, ?_⟩)) ⟨by show k + 1 ≤ _; omega, by show ys ++ [_] = ((nth (nth (nth p.fFuncs.xs fn).fBlocks.xs blk).fEnd.fWays.xs w).fArgs.xs.take (k + 1)).map _; rw [← takeN hkl, List.map_append, hy]; rfl⟩ (by show _ - _ < _ - _; omega) PSub.refl
        have hkE : k = (nth (nth (nth p.fFuncs.xs fn).fBlocks.xs blk).fEnd.fWays.xs w).fArgs.xs.length := by omega
        subst hkE
        rw [List.take_length] at hy
        have hyl : ys.length = (nth (nth p.fFuncs.xs fn).fBlocks.xs (nth (nth (nth p.fFuncs.xs fn).fBlocks.xs blk).fEnd.fWays.xs w).fTo.toNat).fParams.xs.length := by rw [hy, List.length_map, hargs]
        have hyw : ∀ k, wfi (nth ys k) := fun k => nth_wf (fun x hx => by rw [hy] at hx; obtain ⟨q, _, rfl⟩ := List.mem_map.1 hx; exact hwf _) k
        (repeat' (first | refine s_move ?_ | refine s_assign ?_ | refine s_nil ?_ | (refine k_C ?_; first | refine s_seq ?_ | refine s_region ?_ | refine s_block ?_ | refine s_exit ?_) | (refine k_E ?_; first | refine e_seq ?_ | refine e_seq_exit ?_ | refine e_bk_exit ?_ | refine e_lp_exit ?_) | (refine k_load ?_; first | refine s_ldB rfl rfl ?_ | refine s_ldS rfl rfl om rfl ?_) | (refine k_fld ?_; first | refine s_fld rfl ?_ | refine s_fldB rfl ?_) | (refine k_idx ?_; refine s_idxSI rfl rfl om om ?_) | (refine k_call ?_; refine s_len rfl ?_)))
        refine s_loop (σ := Nat) (fun k => [(0, .pointer (some ⟨bo, 0, none⟩)), (3, .int .i64 (base.length : Nat)), (10, .pointer (some ⟨b10, 0, none⟩)), (11, .map (some vb)), (14, .int .i64 (nth (nth (nth p.fFuncs.xs fn).fBlocks.xs blk).fEnd.fWays.xs w).fTo), (30, .slice A5 ys.length c5), (386, .slice (nth (nth p.fFuncs.xs fn).fBlocks.xs (nth (nth (nth p.fFuncs.xs fn).fBlocks.xs blk).fEnd.fWays.xs w).fTo.toNat).fParams.A (nth (nth p.fFuncs.xs fn).fBlocks.xs (nth (nth (nth p.fFuncs.xs fn).fBlocks.xs blk).fEnd.fWays.xs w).fTo.toNat).fParams.xs.length (nth (nth p.fFuncs.xs fn).fBlocks.xs (nth (nth (nth p.fFuncs.xs fn).fBlocks.xs blk).fEnd.fWays.xs w).fTo.toNat).fParams.c), (387, .int .i64 (nth (nth p.fFuncs.xs fn).fBlocks.xs (nth (nth (nth p.fFuncs.xs fn).fBlocks.xs blk).fEnd.fWays.xs w).fTo.toNat).fParams.xs.length), (388, .int .i64 (k : Nat))])
          (fun k => [mp EW 3 vb ((keysOf p fn).length + k) (putN (nth (nth p.fFuncs.xs fn).fBlocks.xs (nth (nth (nth p.fFuncs.xs fn).fBlocks.xs blk).fEnd.fWays.xs w).fTo.toNat).fParams.xs ys f.vals k), own 2 A5 ys.length c5 ys, var 63 b10 (nth p.fFuncs.xs fn), var 41 bo (⟨p, ⟨Am, cm, ss2⟩, ⟨Al3, cl3, lk⟩, ((F : Int) - ((M.steps + 1 : Nat) : Int)), 0, false⟩ : Palingslaw08Own), own 86 Al3 lk.length cl3 lk, own 45 Am ss2.length cm ss2, rws 2 ss2])
          (fun k => k ≤ (nth (nth p.fFuncs.xs fn).fBlocks.xs (nth (nth (nth p.fFuncs.xs fn).fBlocks.xs blk).fEnd.fWays.xs w).fTo.toNat).fParams.xs.length) (fun k => (nth (nth p.fFuncs.xs fn).fBlocks.xs (nth (nth (nth p.fFuncs.xs fn).fBlocks.xs blk).fEnd.fWays.xs w).fTo.toNat).fParams.xs.length - k) 0 (by repeat (first | exact trivial | refine ⟨rfl, ?_⟩)) (Nat.zero_le _) (PSub.take [2, 0, 1, 1, 1, 1, 1] rfl) ?_
        rintro g5 k hk
        (repeat' (first | refine s_nil ?_ | (refine k_C ?_; first | refine s_seq ?_ | refine s_region ?_) | (refine k_E ?_; refine e_seq ?_) | (refine k_bin ?_; refine s_lss rfl rfl ?_)))
        (first | (refine k_C ?_; (refine s_ifd rfl ?_ ?_ <;> intro hc <;> try (exfalso; omega))))
        · have hkl : k < (nth (nth p.fFuncs.xs fn).fBlocks.xs (nth (nth (nth p.fFuncs.xs fn).fBlocks.xs blk).fEnd.fWays.xs w).fTo.toNat).fParams.xs.length := by omega
          have hky : k < ys.length := by omega
          have hpw : wfi (nth (nth (nth p.fFuncs.xs fn).fBlocks.xs (nth (nth (nth p.fFuncs.xs fn).fBlocks.xs blk).fEnd.fWays.xs w).fTo.toNat).fParams.xs k) := RdD.int (ok := okOf w0 f0) (w := w0) (by infer_instance)
          (repeat' (first | refine s_move ?_ | refine s_assign ?_ | refine s_nil ?_ | (refine k_C ?_; first | refine s_seq ?_ | refine s_region ?_ | refine s_skip ?_ | refine s_block ?_) | (refine k_E ?_; refine e_seq ?_) | (refine k_load ?_; first | refine s_ld rfl om rfl ?_ | refine s_ldS rfl rfl om rfl ?_) | (refine k_idx ?_; first | refine s_idx rfl rfl om ?_ | refine s_idxS rfl rfl om ?_)))
          refine s_put (yv := nth ys k) rfl rfl rfl hpw (wfi_iff.1 (hyw k)) (by omega) ?_
          (repeat' (first | refine s_move ?_ | refine s_nil ?_ | (refine k_C ?_; refine s_region ?_) | (refine k_E ?_; first | refine e_seq ?_ | refine e_bk ?_) | (refine k_bin ?_; refine s_add1 rfl rfl om ?_)))
          exact e_lp (k + 1) (by repeat (first | exact trivial | refine ⟨rfl, ?_⟩)) (by show k + 1 ≤ _; omega) (by show _ - _ < _ - _; omega) PSub.refl
        have hkE : k = (nth (nth p.fFuncs.xs fn).fBlocks.xs (nth (nth (nth p.fFuncs.xs fn).fBlocks.xs blk).fEnd.fWays.xs w).fTo.toNat).fParams.xs.length := by omega
        subst hkE
        (repeat' (first | (refine k_C ?_; refine s_exit ?_) | (refine k_E ?_; first | refine e_seq_exit ?_ | refine e_bk_exit ?_ | refine e_bk ?_ | refine e_lp_exit ?_)))
        have hr9 := hr.way hG hW hlt hatN hendE hcase
        have hv9 : (wayF p f (nth (nth p.fFuncs.xs fn).fBlocks.xs blk).fEnd w).vals = putN (nth (nth p.fFuncs.xs fn).fBlocks.xs (nth (nth (nth p.fFuncs.xs fn).fBlocks.xs blk).fEnd.fWays.xs w).fTo.toNat).fParams.xs ys f.vals (nth (nth p.fFuncs.xs fn).fBlocks.xs (nth (nth (nth p.fFuncs.xs fn).fBlocks.xs blk).fEnd.fWays.xs w).fTo.toNat).fParams.xs.length := by
          unfold wayF
          show putAll (nth (nth p.fFuncs.xs f.fn).fBlocks.xs _).fParams.xs _ f.vals = _
          rw [hr.fn, hy]
          rfl
        refine e_lp (gone M base lk (wayF p f (nth (nth p.fFuncs.xs fn).fBlocks.xs blk).fEnd w), wayF p f (nth (nth p.fFuncs.xs fn).fBlocks.xs blk).fEnd w, Al3, cl3, ss2) (by dsimp only; rw [hto]; exact (by repeat (first | exact trivial | refine ⟨rfl, ?_⟩))) ⟨hr9, rfl, hs2⟩ (by show F - (M.steps + 1) < F - M1.steps; omega) ((PSub.take [0, 1, 1, 1, 1, 1] rfl).trans ((PSub.mpCut (keysOf p fn) U_3 ?_).trans (PSub.eq (by dsimp only; rw [hv9]; rfl))))
        intro u hu
        rcases putN_sub (Nat.le_refl _) u hu with h | h
        · exact par_made (f := (nth p.fFuncs.xs fn)) hto3 u h
        · exact hkey u h
        --}
end Go.Proofs.Ytoknjpmlloikhaa
