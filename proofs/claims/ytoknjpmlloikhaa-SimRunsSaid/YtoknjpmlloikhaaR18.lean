/- Layer 8: the law's own calls and the machine (plainly). -/
import Derived.Test.YtoknjpmlloikhaaR16
namespace Go.Proofs.Ytoknjpmlloikhaa
set_option linter.unusedVariables false
set_option linter.unusedSimpArgs false
open Go Go.RowKit

/-- The machine stands in a call that the law does: F is the fuel, M0 the machine when the call began, base the calls around it. -/
structure RunS (p : SsaProg) (F : Nat) (M0 : Mch) (base : List Frm) (fn : Nat) (dst : Int) (M : Mch) (f : Frm) : Prop where
  go : ∃ k, goM p k M0 = some M
  ok : MchOk p M
  fs : M.fs = base ++ [f]
  fn : f.fn = fn
  dst : f.dst = dst
  fin : M.fin = false
  trap : M.trap = 0
  val : M.val = 0
  st : M.steps ≤ F
/-- What comes of a call that the law does. -/
def OwnR (p : SsaProg) (F : Nat) (M0 : Mch) (base : List Frm) (dst : Int) (z : Int) (goes : Bool) (mem : List (List Int)) (leaks : List ApiLeak) (left trap : Int) (spent : Bool) : Prop :=
  (goes = true ∧ spent = false ∧ trap = 0 ∧ ∃ M2, (∃ k, goM p k M0 = some M2) ∧ MchOk p M2 ∧ M2.mem = mem ∧ M2.leaks = leaks ∧ left = (F : Int) - M2.steps ∧ M2.steps ≤ F ∧ M2.trap = 0 ∧ ((base = [] ∧ M2.fin = true ∧ M2.val = z) ∨ (∃ B g, base = B ++ [g] ∧ M2.fs = B ++ [{ g with vals := putF g.vals dst z }] ∧ M2.fin = false ∧ M2.val = 0))) ∨
  (goes = false ∧ z = 0 ∧ spent = false ∧ ∃ M2, (∃ k, goM p k M0 = some M2) ∧ MchOk p M2 ∧ M2.fin = true ∧ M2.trap = trap ∧ M2.val = 0 ∧ M2.mem = mem ∧ M2.leaks = leaks ∧ left = (F : Int) - M2.steps ∧ M2.steps ≤ F) ∨
  (goes = false ∧ spent = true ∧ ∃ M2, (∃ k, goM p k M0 = some M2) ∧ M2.fin = false ∧ (F ≤ M2.steps ∨ 60 < M2.deep))
section
variable {p : SsaProg} {F : Nat} {M0 M M2 : Mch} {base : List Frm} {fn : Nat} {dst : Int} {f f2 : Frm}
theorem goM_one (hf : M.fin = false) (h : stepM p { M with steps := M.steps + 1 } = some M2) : goM p 1 M = some M2 :=
  goM_step' hf h rfl
theorem RunS.ne (h : RunS p F M0 base fn dst M f) : 0 < M.fs.length := by rw [h.fs, app_len]; omega
theorem RunS.frm (h : RunS p F M0 base fn dst M f) : FrmOk p f := by
  have := h.ok.fr (M.fs.length - 1) (by have := h.ne; omega)
  rwa [frmN_app_last h.fs] at this
/-- A step of the machine, whatever comes of it. -/
theorem RunS.any (h : RunS p F M0 base fn dst M f) (hG : GoodP p) (hW : WfP p) (h1 : stepM p { M with steps := M.steps + 1 } = some M2) : (∃ k, goM p k M0 = some M2) ∧ MchOk p M2 ∧ M2.steps = M.steps + 1 := by
  obtain ⟨k, hk⟩ := h.go
  have hs : M2.steps = M.steps + 1 := stepM_steps h1
  have hok : MchOk p { M with steps := M.steps + 1 } := ⟨h.ok.fr, h.ok.calls, h.ok.few, h.ok.mem, h.ok.memN, by have := h.ok.leaks; show M.leaks.length ≤ M.steps + 1; omega, h.ok.lw⟩
  have := stepM_ok hG hW hok h.ne (by have := h.ok.leaks; show M.leaks.length + 1 ≤ M.steps + 1; omega) h1
  exact ⟨⟨k + 1, goM_add hk (goM_one h.fin h1)⟩, this.1, hs⟩
theorem RunS.step (h : RunS p F M0 base fn dst M f) (hG : GoodP p) (hW : WfP p) (hlt : M.steps < F) (h1 : stepM p { M with steps := M.steps + 1 } = some M2) (hfs : M2.fs = base ++ [f2]) (hfn : f2.fn = f.fn) (hd : f2.dst = f.dst) (h2 : M2.fin = false) (h3 : M2.trap = 0) (h4 : M2.val = 0) : RunS p F M0 base fn dst M2 f2 := by
  obtain ⟨e1, e2, e3⟩ := h.any hG hW h1
  exact ⟨e1, e2, hfs, hfn.trans h.fn, hd.trans h.dst, h2, h3, h4, by omega⟩
/-- The run is at an end: a trap. -/
theorem RunS.trapped {t : Int} {left : Int} (h : RunS p F M0 base fn dst M f) (hG : GoodP p) (hW : WfP p) (hlt : M.steps < F) (h1 : stepM p { M with steps := M.steps + 1 } = some M2) (h2 : M2.fin = true) (h3 : M2.trap = t) (h4 : M2.val = 0) (hl : left = (F : Int) - (M.steps + 1)) : OwnR p F M0 base dst 0 false M2.mem M2.leaks left t false := by
  obtain ⟨e1, e2, e3⟩ := h.any hG hW h1
  exact .inr (.inl ⟨rfl, rfl, rfl, M2, e1, e2, h2, h3, h4, rfl, rfl, by omega, by omega⟩)
/-- The fuel is spent. -/
theorem RunS.spent {z : Int} {mem : List (List Int)} {leaks : List ApiLeak} {left trap : Int} (h : RunS p F M0 base fn dst M f) (hlt : F ≤ M.steps) : OwnR p F M0 base dst z false mem leaks left trap true :=
  .inr (.inr ⟨rfl, rfl, M, h.go, h.fin, .inl hlt⟩)
/-- The call comes back. -/
theorem RunS.back {z left : Int} {e : SsaEnd} (h : RunS p F M0 base fn dst M f) (hG : GoodP p) (hW : WfP p) (hlt : M.steps < F) (hat : f.at_ = (nth (nth p.fFuncs.xs f.fn).fBlocks.xs f.block).fIns.xs.length) (he : e = (nth (nth p.fFuncs.xs f.fn).fBlocks.xs f.block).fEnd) (hk : e.fKind = 3) (hz : z = getV f.vals e.fVal) (hl : left = (F : Int) - (M.steps + 1)) : OwnR p F M0 base dst z true M.mem M.leaks left 0 false := by
  subst he
  obtain ⟨m1, hm1⟩ : ∃ x, x = { M with steps := M.steps + 1 } := ⟨_, rfl⟩
  have hfs1 : m1.fs = base ++ [f] := by rw [hm1]; exact h.fs
  have h1 : stepM p m1 = some (leaveM m1 f z) := by
    rw [step_end hfs1 hat, hz]
    unfold finishM
    rw [if_pos hk]
  have h1' := h1
  rw [hm1] at h1'
  obtain ⟨e1, e2, e3⟩ := h.any hG hW h1'
  rcases List.eq_nil_or_concat base with rfl | ⟨B, g, hb⟩
  · have h2 : leaveM m1 f z = { m1 with fs := [], val := z, fin := true } := leaveM_nil hfs1
    rw [← hm1, h2] at e1 e2 e3
    refine .inl ⟨rfl, rfl, rfl, _, e1, e2, ?_, ?_, ?_, ?_, ?_, .inl ⟨rfl, rfl, rfl⟩⟩
    · rw [hm1]
    · rw [hm1]
    · rw [e3]; omega
    · rw [e3]; omega
    · rw [hm1]; exact h.trap
  · rw [List.concat_eq_append] at hb
    subst hb
    have h2 : leaveM m1 f z = { m1 with fs := B ++ [{ g with vals := putF g.vals f.dst z }] } := leaveM_app hfs1
    rw [← hm1, h2] at e1 e2 e3
    refine .inl ⟨rfl, rfl, rfl, _, e1, e2, ?_, ?_, ?_, ?_, ?_, .inr ⟨B, g, rfl, ?_, ?_, ?_⟩⟩
    · rw [hm1]
    · rw [hm1]
    · rw [e3]; omega
    · rw [e3]; omega
    · rw [hm1]; exact h.trap
    · rw [h.dst]
    · rw [hm1]; exact h.fin
    · rw [hm1]; exact h.val
end
theorem goM_fin {p : SsaProg} {m m2 : Mch} {k : Nat} (h : goM p (k + 1) m = some m2) : m.fin = false := by
  unfold goM at h
  split at h
  · cases h
  · rename_i hn; simpa using hn
theorem stepM_deep {p : SsaProg} {m m2 : Mch} (h : stepM p m = some m2) : m.deep ≤ m2.deep := by
  have hf : ∀ f e, (finishM p m f e).deep = m.deep := fun f e => by
    unfold finishM
    split
    · unfold leaveM; split
      · rfl
      · dsimp only; split <;> rfl
    split
    · rfl
    split <;> rfl
  have hd : ∀ (m : Mch) f i, doI p m f i = some m2 → m.deep ≤ m2.deep := fun m f i h => by
    unfold doI enterM at h
    dsimp only at h
    repeat' split at h
    all_goals first | (cases h; exact Nat.le_refl _) | (cases h; exact Nat.le_max_left _ _) | (cases h; split <;> exact Nat.le_refl _) | cases h
  unfold stepM at h
  split at h
  · cases h; exact Nat.le_refl _
  · dsimp only at h
    split at h
    · cases h; rw [hf]; exact Nat.le_refl _
    · have := hd _ _ _ h; exact this
theorem goM_deep {p : SsaProg} : ∀ {k : Nat} {m m2 : Mch}, goM p k m = some m2 → m.deep ≤ m2.deep
  | 0, m, m2, h => by cases h; exact Nat.le_refl _
  | k + 1, m, m2, h => by
    unfold goM at h
    split at h
    · cases h
    · obtain ⟨m1, h1, h2⟩ := Option.bind_eq_some_iff.1 h
      have e0 := stepM_deep h1
      have e1 : m.deep ≤ m1.deep := e0
      exact Nat.le_trans e1 (goM_deep h2)
/-- Not at an end, and no fuel left: spent. -/
theorem runM_fuel {p : SsaProg} {fuel : Int} : ∀ {k n : Nat} {m m2 : Mch}, goM p k m = some m2 → m2.fin = false → fuel ≤ m2.steps → runM p fuel n m = .spent
  | _, 0, m, m2, _, _, _ => rfl
  | 0, n + 1, m, m2, h, hf, hs => by
    cases h
    unfold runM
    rw [if_neg (by rw [hf]; decide), if_pos hs]
  | k + 1, n + 1, m, m2, h, hf, hs => by
    have h0 := goM_fin h
    unfold goM at h
    rw [if_neg (by rw [h0]; decide)] at h
    obtain ⟨m1, h2, h3⟩ := Option.bind_eq_some_iff.1 h
    unfold runM
    rw [if_neg (by rw [h0]; decide), h2]
    dsimp only
    rw [runM_fuel h3 hf hs]
    split <;> rfl
/-- What ended came by each place that was come by. -/
theorem goM_deeper {p : SsaProg} : ∀ {k j : Nat} {m m2 m3 : Mch}, goM p k m = some m2 → m2.fin = false → goM p j m = some m3 → m3.fin = true → m2.deep ≤ m3.deep
  | 0, j, m, m2, m3, h, _, h2, _ => by cases h; exact goM_deep h2
  | k + 1, 0, m, m2, m3, h, _, h2, hf => by
    cases h2
    have := goM_fin h
    rw [this] at hf; cases hf
  | k + 1, j + 1, m, m2, m3, h, hf, h2, hf3 => by
    have h0 := goM_fin h
    unfold goM at h h2
    rw [if_neg (by rw [h0]; decide)] at h h2
    obtain ⟨m1, h3, h4⟩ := Option.bind_eq_some_iff.1 h
    obtain ⟨m1', h5, h6⟩ := Option.bind_eq_some_iff.1 h2
    rw [h3] at h5
    cases h5
    exact goM_deeper h4 hf h6 hf3
end Go.Proofs.Ytoknjpmlloikhaa
