/- Layer 8: what is right stays right, step by step (plainly). -/
import Derived.Test.YtoknjpmlloikhaaR6
namespace Go.Proofs.Ytoknjpmlloikhaa
set_option linter.unusedVariables false
set_option linter.unusedSimpArgs false
open Go Go.RowKit

/-- The numbers of a program are words. -/
structure WfP (p : SsaProg) : Prop where
  num : ∀ f b j, wfi (nth (nth (nth p.fFuncs.xs f).fBlocks.xs b).fIns.xs j).fNum
  dst : ∀ f b j, wfi (nth (nth (nth p.fFuncs.xs f).fBlocks.xs b).fIns.xs j).fDst
theorem wfP_of {ok : FP} {w : World} {p : SsaProg} (h : RdD ok w p) : WfP p :=
  ⟨fun f b j => RdD.int (ok := ok) (w := w) (by infer_instance), fun f b j => RdD.int (ok := ok) (w := w) (by infer_instance)⟩
theorem getV_put {v : Int → Option Int} {x y u : Int} : getV (putF v x y) u = if u = x then y else getV v u := by
  unfold getV putF upd
  split <;> rfl
theorem putN_wf {ps as' : List Int} {v : Int → Option Int} (hv : ∀ u, wfi (getV v u)) (ha : ∀ k, wfi (nth as' k)) : ∀ n u, wfi (getV (putN ps as' v n) u)
  | 0, u => hv u
  | n + 1, u => by
    show wfi (getV (putF (putN ps as' v n) (nth ps n) (nth as' n)) u)
    rw [getV_put]
    split
    · exact ha n
    · exact putN_wf hv ha n u
theorem wfi0 : wfi 0 := ⟨by decide, by decide⟩
theorem wfi1 : wfi 1 := ⟨by decide, by decide⟩
theorem wfi2 : wfi 2 := ⟨by decide, by decide⟩
theorem wfi3 : wfi 3 := ⟨by decide, by decide⟩
theorem nth_wf {xs : List Int} (h : ∀ x ∈ xs, wfi x) (k : Nat) : wfi (nth xs k) := by
  by_cases hk : k < xs.length
  · exact h _ (nth_mem hk)
  · rw [nth_out (by omega)]; exact wfi0
theorem map_wf {v : Int → Option Int} (hv : ∀ u, wfi (getV v u)) (xs : List Int) : ∀ x ∈ xs.map (getV v), wfi x := fun x hx => by
  obtain ⟨q, _, rfl⟩ := List.mem_map.1 hx; exact hv q
section
variable {p : SsaProg} {m m2 : Mch} {f : Frm}
theorem MchOk.top (hm : MchOk p m) (h0 : 0 < m.fs.length) (hf : FrmOk p f) (hfn : f.fn = (frmN m.fs (m.fs.length - 1)).fn) (hd : f.dst = (frmN m.fs (m.fs.length - 1)).dst) : MchOk p (m.top f) := by
  have hl : (m.top f).fs.length = m.fs.length := by unfold Mch.top; exact List.length_set
  have e : ∀ j, frmN (m.top f).fs j = if j = m.fs.length - 1 then f else frmN m.fs j := fun j => by unfold Mch.top; exact frmN_set (by omega)
  refine ⟨fun j hj => ?_, fun j hj => ?_, by rw [hl]; exact hm.few, hm.mem, hm.memN, hm.leaks, hm.lw⟩
  · rw [e]
    split
    · exact hf
    · exact hm.fr j (by omega)
  · have := hm.calls j (by omega)
    rw [e, e]
    by_cases h1 : j + 1 = m.fs.length - 1
    · rw [if_pos h1, if_neg (by omega), hd, ← h1]; exact this
    · rw [if_neg h1]
      split
      · rename_i h2; rw [hfn, ← h2]; exact this
      · exact this
theorem MchOk.leak {l : ApiLeak} (hm : MchOk p m) (hl : m.leaks.length + 1 ≤ m.steps) (hw : LkW l) : MchOk p (m.leak l) :=
  ⟨hm.fr, hm.calls, hm.few, hm.mem, hm.memN, by unfold Mch.leak; simpa using hl, fun q hq => by
    have hq : q ∈ m.leaks ++ [l] := hq
    rcases List.mem_append.1 hq with h | h
    · exact hm.lw q h
    · rw [List.mem_singleton.1 h]; exact hw⟩
theorem MchOk.stop {t : Int} (hm : MchOk p m) : MchOk p (m.stop t) := ⟨hm.fr, hm.calls, hm.few, hm.mem, hm.memN, hm.leaks, hm.lw⟩
theorem MchOk.write {a : Nat} {ys : List Int} (hm : MchOk p m) (hl : ys.length = (m.row a).length) (hw : ∀ x ∈ ys, wfi x) : MchOk p { m with mem := m.mem.set a ys } := by
  refine ⟨hm.fr, hm.calls, hm.few, fun j hj => ?_, by show (m.mem.set a ys).length = _; rw [List.length_set]; exact hm.memN, hm.leaks, hm.lw⟩
  have hj : j < m.mem.length := by simpa using hj
  have := hm.mem j hj
  show 0 < ((m.mem.set a ys).getD j []).length ∧ ((m.mem.set a ys).getD j []).length ≤ 4096 ∧ ∀ x ∈ (m.mem.set a ys).getD j [], wfi x
  rw [List.getD_eq_getElem?_getD]
  by_cases e : a = j
  · subst e
    rw [List.getElem?_set_self hj]
    show 0 < ys.length ∧ ys.length ≤ 4096 ∧ ∀ x ∈ ys, wfi x
    rw [hl]
    exact ⟨this.1, this.2.1, hw⟩
  · rw [List.getElem?_set_ne e, ← List.getD_eq_getElem?_getD]
    exact this
theorem FrmOk.put {d y : Int} (hf : FrmOk p f) (hd : d ∈ keysOf p f.fn) (hy : wfi y) : FrmOk p { f with vals := putF f.vals d y } :=
  ⟨hf.fn, hf.blk, hf.at_, fun u hu => by
    have hu : upd f.vals d (some y) u ≠ none := hu
    unfold upd at hu
    split at hu
    · rename_i e; rw [e]; exact hd
    · exact hf.keys u hu, fun u => by
    show wfi (getV (putF f.vals d y) u)
    rw [getV_put]
    split
    · exact hy
    · exact hf.wf u, hf.dst⟩
theorem MchOk.push {g : Frm} (hm : MchOk p m) (hl : m.fs.length < 2000) (hg : FrmOk p g) (hd : 0 < m.fs.length → g.dst ∈ keysOf p (frmN m.fs (m.fs.length - 1)).fn) {dp : Nat} : MchOk p { m with fs := m.fs ++ [g], deep := dp } := by
  have e1 : (m.fs ++ [g]).length = m.fs.length + 1 := by rw [List.length_append]; rfl
  refine ⟨fun j hj => ?_, fun j hj => ?_, by show (m.fs ++ [g]).length ≤ _; omega, hm.mem, hm.memN, hm.leaks, hm.lw⟩
  · have hj : j < m.fs.length + 1 := by rw [← e1]; exact hj
    show FrmOk p (frmN (m.fs ++ [g]) j)
    by_cases h : j < m.fs.length
    · rw [frmN_app h]; exact hm.fr j h
    · rw [show j = m.fs.length by omega, frmN_last]; exact hg
  · have hj : j + 1 < m.fs.length + 1 := by rw [← e1]; exact hj
    show (frmN (m.fs ++ [g]) (j + 1)).dst ∈ keysOf p (frmN (m.fs ++ [g]) j).fn
    rw [frmN_app (j := j) (by omega)]
    by_cases h : j + 1 < m.fs.length
    · rw [frmN_app h]; exact hm.calls j h
    · have : j = m.fs.length - 1 := by omega
      rw [show j + 1 = m.fs.length by omega, frmN_last, this]
      exact hd (by omega)
end
theorem enterM_ok {p : SsaProg} {m m2 : Mch} {fn : Nat} {as' : List Int} {d : Int} (hG : GoodP p) (hm : MchOk p m) (hfn : fn < p.fFuncs.xs.length) (ha : ∀ x ∈ as', wfi x) (hd : wfi d) (hk : 0 < m.fs.length → d ∈ keysOf p (frmN m.fs (m.fs.length - 1)).fn) (h : enterM p m fn as' d = some m2) : MchOk p m2 ∧ m2.steps = m.steps ∧ 0 < m2.fs.length := by
  unfold enterM at h
  split at h
  · cases h
  rename_i hl
  cases h
  refine ⟨hm.push (by omega) ⟨hfn, hG.n0 fn hfn, Nat.zero_le _, fun u hu => ?_, fun u => putN_wf (v := fun _ => none) (fun u => wfi0) (fun k => nth_wf ha k) _ u, hd⟩ hk, rfl, by simp⟩
  exact par_made (f := nth p.fFuncs.xs fn) (hG.n0 fn hfn) u (putN_keys (Nat.le_refl _) u hu)
theorem doI_ok {p : SsaProg} {m m2 : Mch} {i : SsaIns} (hG : GoodP p) (hm : MchOk p m) (h0 : 0 < m.fs.length) (hl : m.leaks.length + 1 ≤ m.steps) (hi : InsR p i) (hdk : i.fDst ≠ 0 → i.fDst ∈ keysOf p (frmN m.fs (m.fs.length - 1)).fn) (hnw : wfi i.fNum) (hdw : wfi i.fDst)
    (h : doI p m (frmN m.fs (m.fs.length - 1)) i = some m2) : MchOk p m2 ∧ m2.steps = m.steps ∧ 0 < m2.fs.length := by
  have hf := hm.fr (m.fs.length - 1) (by omega)
  have hw := map_wf hf.wf i.fArgs.xs
  have hda : ¬ (i.fOp = 4 ∨ i.fOp = 6) → i.fDst ≠ 0 := fun h => by have := hi.dst.1 (by have := hi.op; omega); omega
  have harr : i.fOp = 3 ∨ i.fOp = 4 ∨ i.fOp = 5 ∨ i.fOp = 6 → i.fArr.toNat < m.mem.length := fun h => by
    obtain ⟨h1, h2⟩ := hi.arr h
    have := hm.memN
    omega
  have hrw : ∀ a, a < m.mem.length → ∀ k, wfi (nth (m.row a) k) := fun a ha k => nth_wf (hm.mem a ha).2.2 k
  have put : ∀ {m1 : Mch} {y : Int}, MchOk p m1 → m1.fs = m.fs → m1.steps = m.steps → i.fDst ≠ 0 → wfi y → MchOk p (m1.top { frmN m.fs (m.fs.length - 1) with vals := putF (frmN m.fs (m.fs.length - 1)).vals i.fDst y }) ∧ (m1.top { frmN m.fs (m.fs.length - 1) with vals := putF (frmN m.fs (m.fs.length - 1)).vals i.fDst y }).steps = m.steps ∧ 0 < (m1.top { frmN m.fs (m.fs.length - 1) with vals := putF (frmN m.fs (m.fs.length - 1)).vals i.fDst y }).fs.length := fun {m1 y} h1 e1 e2 hd hy => by
    refine ⟨h1.top (by rw [e1]; exact h0) (hf.put (hdk hd) hy) (by rw [e1]) (by rw [e1]), e2, ?_⟩
    show 0 < (m1.fs.set _ _).length
    rw [List.length_set, e1]; exact h0
  have wset : ∀ {a : Nat} {k : Nat} {y : Int}, a < m.mem.length → wfi y → ∀ x ∈ (m.row a).set k y, wfi x := fun {a k y} ha hy x hx => by
    rcases List.mem_or_eq_of_mem_set hx with h | h
    · exact (hm.mem a ha).2.2 x h
    · rw [h]; exact hy
  have hlw : LkW ⟨2, nth (i.fArgs.xs.map (getV (frmN m.fs (m.fs.length - 1)).vals)) 0, 0⟩ := ⟨wfi2, nth_wf hw 0, wfi0⟩
  unfold doI at h
  dsimp only at h
  split at h
  · cases h; exact put hm rfl rfl (hda (by omega)) hnw
  split at h
  · have hdo : wfi (doW i.fBin (nth (i.fArgs.xs.map (getV (frmN m.fs (m.fs.length - 1)).vals)) 0) (nth (i.fArgs.xs.map (getV (frmN m.fs (m.fs.length - 1)).vals)) 1)).1 := doW_wfi (nth_wf hw 0) (nth_wf hw 1)
    have h1 : ∀ c : Prop, [Decidable c] → ∀ l, LkW l → MchOk p (if c then m.leak l else m) ∧ (if c then m.leak l else m).fs = m.fs ∧ (if c then m.leak l else m).steps = m.steps := fun c _ l hw => by
      split
      · exact ⟨hm.leak hl hw, rfl, rfl⟩
      · exact ⟨hm, rfl, rfl⟩
    obtain ⟨h2, h3, h4⟩ := h1 (divides i.fBin) ⟨3, nth (i.fArgs.xs.map (getV (frmN m.fs (m.fs.length - 1)).vals)) 0, nth (i.fArgs.xs.map (getV (frmN m.fs (m.fs.length - 1)).vals)) 1⟩ ⟨wfi3, nth_wf hw 0, nth_wf hw 1⟩
    have h5 := put h2 h3 h4 (hda (by omega)) hdo
    split at h
    · cases h; exact h5
    · cases h; exact ⟨h5.1.stop, h5.2.1, h5.2.2⟩
  split at h
  · cases h; exact put hm rfl rfl (hda (by omega)) (hrw _ (harr (by omega)) 0)
  split at h
  · cases h
    exact ⟨hm.write (by rw [List.length_set]) (wset (harr (by omega)) (nth_wf hw 0)), rfl, h0⟩
  split at h
  · split at h
    · cases h; exact put (hm.leak hl hlw) rfl rfl (hda (by omega)) (hrw _ (harr (by omega)) _)
    · cases h; exact ⟨(hm.leak hl hlw).stop, rfl, h0⟩
  split at h
  · split at h
    · cases h
      exact ⟨(hm.leak hl hlw).write (a := i.fArr.toNat) (by rw [List.length_set]; rfl) (wset (harr (by omega)) (nth_wf hw 1)), rfl, h0⟩
    · cases h; exact ⟨(hm.leak hl hlw).stop, rfl, h0⟩
  split at h
  · have hfn := hi.fn (by omega)
    exact enterM_ok hG hm (by omega) hw hdw (fun _ => hdk (hda (by omega))) h
  · cases h; exact ⟨hm, rfl, h0⟩
theorem finishM_ok {p : SsaProg} {m : Mch} {e : SsaEnd} (hG : GoodP p) (hm : MchOk p m) (h0 : 0 < m.fs.length) (hl : m.leaks.length + 1 ≤ m.steps) (he : endsB (nth p.fFuncs.xs (frmN m.fs (m.fs.length - 1)).fn) e = true) :
    MchOk p (finishM p m (frmN m.fs (m.fs.length - 1)) e) ∧ (finishM p m (frmN m.fs (m.fs.length - 1)) e).steps = m.steps ∧ ((finishM p m (frmN m.fs (m.fs.length - 1)) e).fin = true ∨ 0 < (finishM p m (frmN m.fs (m.fs.length - 1)) e).fs.length) := by
  have hf := hm.fr (m.fs.length - 1) (by omega)
  obtain ⟨⟨⟨hk1, hk4⟩, hwl, htr, hvl, hv0⟩, hws⟩ : endP e ∧ ∀ w ∈ e.fWays.xs, wayB (nth p.fFuncs.xs (frmN m.fs (m.fs.length - 1)).fn) w = true := by
    unfold endsB endB at he
    rw [Bool.and_eq_true, List.all_eq_true, decide_eq_true_eq] at he
    exact he
  have way : ∀ (m1 : Mch) (w : Nat), MchOk p m1 → m1.fs = m.fs → m1.steps = m.steps → w < e.fWays.xs.length → MchOk p (wayM p m1 (frmN m.fs (m.fs.length - 1)) e w) ∧ (wayM p m1 (frmN m.fs (m.fs.length - 1)) e w).steps = m.steps ∧ ((wayM p m1 (frmN m.fs (m.fs.length - 1)) e w).fin = true ∨ 0 < (wayM p m1 (frmN m.fs (m.fs.length - 1)) e w).fs.length) := fun m1 w h1 e1 e2 hw => by
    have hway := hws _ (nth_mem hw)
    unfold wayB at hway
    simp only [Bool.and_eq_true, decide_eq_true_eq] at hway
    obtain ⟨⟨hto1, hto2⟩, hargs⟩ := hway
    unfold wayM
    refine ⟨h1.top (by rw [e1]; exact h0) ⟨hf.fn, by dsimp only; omega, Nat.zero_le _, fun u hu => ?_, fun u => putN_wf hf.wf (fun k => nth_wf (map_wf hf.wf _) k) _ u, hf.dst⟩ (by rw [e1]) (by rw [e1]), e2, .inr ?_⟩
    · rcases putN_sub (Nat.le_refl _) u hu with h | h
      · exact par_made (f := nth p.fFuncs.xs (frmN m.fs (m.fs.length - 1)).fn) (by omega) u h
      · exact hf.keys u h
    · show 0 < (m1.fs.set _ _).length
      rw [List.length_set, e1]; exact h0
  unfold finishM
  split
  · by_cases h1 : m.fs.length = 1
    · rw [leaveM_one h1]
      exact ⟨⟨fun j hj => absurd hj (Nat.not_lt_zero j), fun j hj => absurd hj (Nat.not_lt_zero _), Nat.zero_le _, hm.mem, hm.memN, hm.leaks, hm.lw⟩, rfl, .inl rfl⟩
    · rw [leaveM_many (by omega)]
      obtain ⟨fs2, hfs2⟩ : ∃ x, x = (m.fs.take (m.fs.length - 1)).set (m.fs.length - 2) { frmN m.fs (m.fs.length - 2) with vals := putF (frmN m.fs (m.fs.length - 2)).vals (frmN m.fs (m.fs.length - 1)).dst (getV (frmN m.fs (m.fs.length - 1)).vals e.fVal) } := ⟨_, rfl⟩
      have hlen : fs2.length = m.fs.length - 1 := by rw [hfs2, List.length_set, List.length_take]; omega
      have e3 : ∀ j, j < m.fs.length - 1 → frmN fs2 j = if j = m.fs.length - 2 then { frmN m.fs (m.fs.length - 2) with vals := putF (frmN m.fs (m.fs.length - 2)).vals (frmN m.fs (m.fs.length - 1)).dst (getV (frmN m.fs (m.fs.length - 1)).vals e.fVal) } else frmN m.fs j := fun j hj => by
        rw [hfs2, frmN_set (by rw [List.length_take]; omega), frmN_take hj]
      have hc := hm.calls (m.fs.length - 2) (by omega)
      rw [show m.fs.length - 2 + 1 = m.fs.length - 1 by omega] at hc
      rw [← hfs2]
      refine ⟨⟨fun j hj => ?_, fun j hj => ?_, by show fs2.length ≤ _; have := hm.few; omega, hm.mem, hm.memN, hm.leaks, hm.lw⟩, rfl, .inr (by show 0 < fs2.length; omega)⟩
      · have hj : j < fs2.length := hj
        show FrmOk p (frmN fs2 j)
        rw [e3 j (by omega)]
        split
        · exact (hm.fr (m.fs.length - 2) (by omega)).put hc (hf.wf _)
        · exact hm.fr j (by omega)
      · have hj : j + 1 < fs2.length := hj
        show (frmN fs2 (j + 1)).dst ∈ keysOf p (frmN fs2 j).fn
        have := hm.calls j (by omega)
        rw [e3 _ (by omega), e3 _ (by omega)]
        by_cases h2 : j + 1 = m.fs.length - 2
        · rw [if_pos h2, if_neg (by omega), ← h2]; exact this
        · rw [if_neg h2]
          split
          · rename_i h3; rw [← h3]; exact this
          · exact this
  split
  · exact ⟨hm.stop, rfl, .inl rfl⟩
  split
  · rename_i h2
    have : endN e.fKind = 2 := by rw [h2]; rfl
    have hb : LkW ⟨1, if getV (frmN m.fs (m.fs.length - 1)).vals e.fVal ≠ 0 then 1 else 0, 0⟩ := ⟨wfi1, by dsimp only; split <;> first | exact wfi1 | exact wfi0, wfi0⟩
    dsimp only
    refine way _ _ (hm.leak hl hb) rfl rfl ?_
    split <;> simp <;> omega
  · have : endN e.fKind = 1 := by rw [show e.fKind = 1 by omega]; rfl
    exact way m 0 hm rfl rfl (by omega)
theorem stepM_ok {p : SsaProg} {m m2 : Mch} (hG : GoodP p) (hW : WfP p) (hm : MchOk p m) (h0 : 0 < m.fs.length) (hl : m.leaks.length + 1 ≤ m.steps) (h : stepM p m = some m2) : MchOk p m2 ∧ m2.steps = m.steps ∧ (m2.fin = true ∨ 0 < m2.fs.length) := by
  have hf := hm.fr (m.fs.length - 1) (by omega)
  have e0 : topM m = some (frmN m.fs (m.fs.length - 1)) := by
    unfold topM frmN
    simp [List.getElem?_eq_getElem (show m.fs.length - 1 < m.fs.length by omega)]
  unfold stepM at h
  rw [e0] at h
  dsimp only at h
  split at h
  · cases h
    exact finishM_ok hG hm h0 hl (hG.ends _ hf.fn _ hf.blk)
  · rename_i hat
    have hat2 := hf.at_
    have hj : (frmN m.fs (m.fs.length - 1)).at_ < (nth (nth p.fFuncs.xs (frmN m.fs (m.fs.length - 1)).fn).fBlocks.xs (frmN m.fs (m.fs.length - 1)).block).fIns.xs.length := by omega
    have hm1 : MchOk p (m.top { frmN m.fs (m.fs.length - 1) with at_ := (frmN m.fs (m.fs.length - 1)).at_ + 1 }) := hm.top h0 ⟨hf.fn, hf.blk, by dsimp only; omega, hf.keys, hf.wf, hf.dst⟩ rfl rfl
    have hl1 : (m.top { frmN m.fs (m.fs.length - 1) with at_ := (frmN m.fs (m.fs.length - 1)).at_ + 1 }).fs.length = m.fs.length := List.length_set
    have hf1 : frmN (m.top { frmN m.fs (m.fs.length - 1) with at_ := (frmN m.fs (m.fs.length - 1)).at_ + 1 }).fs (m.fs.length - 1) = { frmN m.fs (m.fs.length - 1) with at_ := (frmN m.fs (m.fs.length - 1)).at_ + 1 } := by unfold Mch.top; rw [frmN_set (by omega), if_pos rfl]
    have := doI_ok (m := m.top { frmN m.fs (m.fs.length - 1) with at_ := (frmN m.fs (m.fs.length - 1)).at_ + 1 }) (m2 := m2) (i := nth (nth (nth p.fFuncs.xs (frmN m.fs (m.fs.length - 1)).fn).fBlocks.xs (frmN m.fs (m.fs.length - 1)).block).fIns.xs (frmN m.fs (m.fs.length - 1)).at_) hG hm1 (by rw [hl1]; exact h0) hl (hG.ins _ hf.fn _ hf.blk _ hj) (fun hd => by rw [hl1, hf1]; exact dst_made hf.blk hj hd) (hW.num _ _ _) (hW.dst _ _ _) (by rw [hl1, hf1]; exact h)
    exact ⟨this.1, this.2.1, .inr this.2.2⟩
end Go.Proofs.Ytoknjpmlloikhaa
