/- Laying, writing, appending, cutting, calling: over typed pieces. -/
import Derived.Test.YtfplmdjlgjgbgaaA2
namespace Go.Proofs.Ytfplmdjlgjgbgaa
set_option linter.unusedVariables false
set_option linter.unusedSimpArgs false
open Go Go.RowKit

section
variable {w0 w : World} {f0 : FP} {L : List HP}
theorem St.head {X : HP} (H : St w0 f0 (L ++ [X]) w) : St w0 f0 (X :: L) w := by
  have := H.rot (L1 := L) (L2 := [X]); exact this
theorem St.last {X : HP} (H : St w0 f0 (X :: L) w) : St w0 f0 (L ++ [X]) w := by
  have : St w0 f0 ([X] ++ L) w := H
  exact this.rot
end

section
variable {P : Program} {n : Nat} {w0 w : World} {f0 : FP} {ops : Array Oper} {m : Bool} {rest : List Oper} {QC : Exit → Fr → World → Prop} {f : Fr} {L L1 L2 R : List HP} {x y z : Operand}
variable {d : Tmp} {ty t yt e e2 : TypeId} {pos pos' : String} {after after' : Array Edge} {α : Type} {I : Enc α} {sz bytes : Nat} {A A2 : Option Addr} {l c l2 c2 : Nat} {xs ys : List α} {put : HP → List HP} {X : HP}

theorem enc_len1 {u : α} {v : Value} (h : v.cells.toList = I.enc u) : v.cells.size = I.sz := by rw [← Array.length_toList, h, I.len]

/-! laying -/
theorem s_alloc [hE : Elt P t α I sz bytes] (hn : ∀ b, sO P n w0 f0 ops false rest QC (up f d (.pointer (some ⟨b, 0, none⟩))) (var (I := I) t b I.dflt :: L)) (hd : Nat.blt d n = true := by rfl) : sO P n w0 f0 ops false (⟨some d, .alloc t, ty, pos, after, none⟩ :: rest) QC f L := by
  intro w H
  obtain ⟨zv, hTI, hz⟩ := hE.ex
  refine o_alloc hTI.zero H (fun b w' H' => ?_) hd
  rw [hz] at H'
  exact hn b w' H'.head
theorem s_box (u : α) [hE : Elt P t α I sz bytes] (hu : (ev f x).cells.toList = I.enc u) (hn : ∀ b, sO P n w0 f0 ops false rest QC (up f d (.pointer (some ⟨b, 0, none⟩))) (var (I := I) t b u :: L)) (hd : Nat.blt d n = true := by rfl) : sO P n w0 f0 ops false (⟨some d, .box t x, ty, pos, after, none⟩ :: rest) QC f L := by
  intro w H
  refine o_box rfl H (fun b w' H' => ?_) hd
  rw [hu] at H'
  exact hn b w' H'.head
theorem rep_flat (k : Nat) : (List.replicate k (I.enc I.dflt)).flatten = (List.replicate k I.dflt).flatMap I.enc := by
  rw [List.flatMap_def, List.map_replicate]
theorem s_make [hs : SlT P t e] [hE : Elt P e α I sz bytes] {k : Nat} {q q' : IntKind} (hx : ev f x = .int q (k : Int)) (hy : ev f y = .int q' (k : Int)) (hb : k * bytes ≤ 281474976710656)
    (hn : ∀ b, sO P n w0 f0 ops false rest QC (up f d (.slice (some ⟨b, 0, none⟩) k k)) (own (I := I) e (some ⟨b, 0, none⟩) k k (List.replicate k I.dflt) :: L)) (hd : Nat.blt d n = true := by rfl) : sO P n w0 f0 ops false (⟨some d, .makeSlice t x y, ty, pos, after, none⟩ :: rest) QC f L := by
  intro w H
  obtain ⟨zv, hTI, hz⟩ := hE.ex
  refine o_make hs.u hTI hx hy hb H (fun b w' H' => ?_) hd
  have e1 : (madeCells zv.cells (k * sz)).toList = (List.replicate k I.dflt).flatMap I.enc := by
    rw [← hTI.zs, made_flat, hz, rep_flat]
  rw [e1] at H'
  have e2 : row (some ⟨b, 0, none⟩) k k e sz ((List.replicate k I.dflt).flatMap I.enc) = own (I := I) e (some ⟨b, 0, none⟩) k k (List.replicate k I.dflt) := by unfold own; rw [hE.sz_eq]
  rw [e2] at H'
  exact hn b w' H'.head
theorem s_makeI [hs : SlT P t e] [hE : Elt P e α I sz bytes] {k : Int} {q q' : IntKind} (hx : ev f x = .int q k) (hy : ev f y = .int q' k) (h0 : 0 ≤ k) (hb : k.toNat * bytes ≤ 281474976710656)
    (hn : ∀ b, sO P n w0 f0 ops false rest QC (up f d (.slice (some ⟨b, 0, none⟩) k.toNat k.toNat)) (own (I := I) e (some ⟨b, 0, none⟩) k.toNat k.toNat (List.replicate k.toNat I.dflt) :: L)) (hd : Nat.blt d n = true := by rfl) : sO P n w0 f0 ops false (⟨some d, .makeSlice t x y, ty, pos, after, none⟩ :: rest) QC f L :=
  s_make (k := k.toNat) (by rw [Int.toNat_of_nonneg h0]; exact hx) (by rw [Int.toNat_of_nonneg h0]; exact hy) hb hn hd

/-! literals -/
theorem fold_enc : ∀ (us : List α) (k : Nat) (cs : List Value), cs.length = (k + us.length) * I.sz → ((us.zipIdx k).map fun p => (p.2, I.enc p.1)).foldl (fun cs p => lay cs (p.1 * I.sz) p.2) cs = cs.take (k * I.sz) ++ us.flatMap I.enc
  | [], k, cs, h => by
    simp at h
    rw [← h]; simp
  | u :: us, k, cs, h => by
    rw [List.zipIdx_cons, List.map_cons, List.foldl_cons]
    have hl := I.len u
    have hk : k * I.sz + I.sz ≤ cs.length := by
      rw [h, ← Nat.succ_mul]; exact Nat.mul_le_mul_right _ (by simp)
    have h2 : (lay cs (k * I.sz) (I.enc u)).length = cs.length := by unfold lay; simp [hl]; omega
    rw [fold_enc us (k + 1) _ (by rw [h2, h]; simp; congr 1; omega)]
    unfold lay
    rw [Nat.succ_mul, List.flatMap_cons]
    rw [List.take_left' (by simp [hl]; omega)]
    simp
theorem lit_own [hs : SlT P t e] [hE : Elt P e α I sz bytes] (us : List α) {len : Nat} {lp : List (Nat × Operand)} (hlen : len = us.length) (hl : len * sz ≤ 16777216)
    (hp : lp.map (fun p => (p.1, (ev f p.2).cells.toList)) = us.zipIdx.map (fun p => (p.2, I.enc p.1)))
    (H : St w0 f0 L w) (hd : Nat.blt d n = true) {Q : Fr → World → Prop} (h : ∀ b w', St w0 f0 (own (I := I) e (some ⟨b, 0, none⟩) len len us :: L) w' → wO P ops n false rest Q (up f d (.slice (some ⟨b, 0, none⟩) len len)) w') :
    wO P ops n false (⟨some d, .buildSlice t len lp.toArray, ty, pos, after, none⟩ :: rest) Q f w := by
  obtain ⟨zv, hTI, hz⟩ := hE.ex
  have hfit : ∀ p ∈ lp.map (fun p => (p.1, ev f p.2)), p.1 < len ∧ p.2.cells.size = sz := by
    intro p hp'
    obtain ⟨q, hq, rfl⟩ := List.mem_map.1 hp'
    have : (q.1, (ev f q.2).cells.toList) ∈ us.zipIdx.map (fun p => (p.2, I.enc p.1)) := by rw [← hp]; exact List.mem_map.2 ⟨q, hq, rfl⟩
    obtain ⟨r, hr, er⟩ := List.mem_map.1 this
    have h1 : r.2 = q.1 := congrArg Prod.fst er
    have h2 : I.enc r.1 = (ev f q.2).cells.toList := congrArg Prod.snd er
    obtain ⟨hr2, _⟩ := List.mem_zipIdx' (x := r.1) (i := r.2) hr
    refine ⟨by show q.1 < len; omega, ?_⟩
    show (ev f q.2).cells.size = sz
    rw [enc_len1 h2.symm, hE.sz_eq]
  refine o_lit (pv := lp.map fun p => (p.1, ev f p.2)) (cells := us.flatMap I.enc) hs.u hTI hl rfl hfit ?_ H (fun b w' H' => ?_) hd
  · have h3 : (lp.map fun p => (p.1, ev f p.2)).foldl (fun cs p => lay cs (p.1 * sz) p.2.cells.toList) (List.replicate len zv.cells.toList).flatten = (lp.map (fun p => (p.1, (ev f p.2).cells.toList))).foldl (fun cs p => lay cs (p.1 * I.sz) p.2) (List.replicate len zv.cells.toList).flatten := by
      rw [hE.sz_eq, List.foldl_map, List.foldl_map]
    rw [h3, hp, fold_enc us 0 _ (by rw [hz, rep_flat, flat_len (fun a _ => I.len a)]; simp [hlen])]
    simp
  · have e2 : row (some ⟨b, 0, none⟩) len len e sz (us.flatMap I.enc) = own (I := I) e (some ⟨b, 0, none⟩) len len us := by unfold own; rw [hE.sz_eq]
    rw [e2] at H'
    exact h b w' H'.head
theorem s_lit (us : List α) [hs : SlT P t e] [hE : Elt P e α I sz bytes] {len : Nat} {lp : List (Nat × Operand)} (hlen : len = us.length) (hl : len * sz ≤ 16777216)
    (hp : lp.map (fun p => (p.1, (ev f p.2).cells.toList)) = us.zipIdx.map (fun p => (p.2, I.enc p.1)))
    (hn : ∀ b, sO P n w0 f0 ops false rest QC (up f d (.slice (some ⟨b, 0, none⟩) len len)) (own (I := I) e (some ⟨b, 0, none⟩) len len us :: L)) (hd : Nat.blt d n = true := by rfl) :
    sO P n w0 f0 ops false (⟨some d, .buildSlice t len lp.toArray, ty, pos, after, none⟩ :: rest) QC f L :=
  fun w H => lit_own us hlen hl hp H hd fun b w' H' => hn b w' H'
theorem s_build {cells : List Value} {lp : List (Nat × Operand)} (pv : List (Nat × Value)) (hv : lp.map (fun p => (p.1, ev f p.2)) = pv) (hb : P.built t pv = some cells.toArray) (h : sO P n w0 f0 ops m rest QC (up f d (.agg cells.toArray)) L) (hd : Nat.blt d n = true := by rfl) :
    sO P n w0 f0 ops m (⟨some d, .build t lp.toArray, ty, pos, after, none⟩ :: rest) QC f L := fun w H => o_build hv hb (h w H) hd

/-! writing -/
theorem Pc.st (h : Pc L A X put) (H : St w0 f0 L w) : ∃ (i : Nat) (f1 : FP), L[i]? = some X ∧ X.sat w f1 ∧ ∀ (w' : World) (A' : HP) (g1 : FP), Step w f1 w' → A'.sat w' g1 → (∀ b, g1 b → f1 b ∨ w.heap.size ≤ b) → St w0 f0 (put A') w' := by
  obtain ⟨i, h1, h2⟩ := h.at_
  obtain ⟨f1, hA, _, hB⟩ := H.focus i h1
  exact ⟨i, f1, h1, hA, fun w' A' g1 a b c => by rw [h2]; exact hB w' A' g1 a b c⟩
theorem own.set (hE : Elt P e2 α I sz bytes) {a : Addr} {f1 : FP} (hA : (own (I := I) e2 (some a) l c xs).sat w f1) {j : Nat} (hj : j < l) (u : α) :
    ∃ w', (storeCells (a.add (j * sz)) (I.enc u)).run P w = .ok () w' ∧ (own (I := I) e2 (some a) l c (xs.set j u)).sat w' f1 ∧ Step w f1 w' := by
  have hl := own.len hA
  have hle : j * sz + (I.enc u).length ≤ (xs.flatMap I.enc).length := by
    rw [flat_len (fun a _ => I.len a), I.len, hE.sz_eq, hl.1, ← Nat.succ_mul]
    exact Nat.mul_le_mul_right _ hj
  obtain ⟨w', hrun, hs, hst⟩ := row.put (P := P) (show (row (some a) l c e2 I.sz (xs.flatMap I.enc)).sat w f1 from hA) (j * sz) (I.enc u) hle (fun v hv => I.one u v hv)
  rw [← hE.sz_eq, flat_set (fun a _ => I.len a) (by omega) (I.len u)] at hs
  exact ⟨w', hrun, hs, hst⟩
theorem s_st (u : α) [hE : Elt P t α I sz bytes] {j : Nat} (hx : ev f x = pt A (j * sz)) [h : Pc L A (own (I := I) e2 A l c xs) put] (hu : (ev f y).cells.toList = I.enc u) (h1 : j < l)
    (hn : sO P n w0 f0 ops false rest QC f (put (own (I := I) e2 A l c (xs.set j u)))) : sO P n w0 f0 ops false (⟨none, .store t x y, ty, pos, after, none⟩ :: rest) QC f L := by
  intro w H
  obtain ⟨i, f1, hi, hA, hB⟩ := h.st H
  obtain ⟨a, rfl, _⟩ := row.adr (show (row A l c e2 I.sz (xs.flatMap I.enc)).sat w f1 from hA) (by omega)
  obtain ⟨zv, hTI, _⟩ := hE.ex
  have hle : j * sz + (I.enc u).length ≤ (xs.flatMap I.enc).length := by
    rw [flat_len (fun a _ => I.len a), I.len, hE.sz_eq, (own.len hA).1, ← Nat.succ_mul]
    exact Nat.mul_le_mul_right _ h1
  obtain ⟨w', hrun, hs, hst⟩ := row.put (P := P) (show (row (some a) l c e2 I.sz (xs.flatMap I.enc)).sat w f1 from hA) (j * sz) (I.enc u) hle (fun v hv => I.one u v hv)
  rw [← hE.sz_eq, flat_set (fun a _ => I.len a) (by have := (own.len hA).1; omega) (I.len u)] at hs
  refine o_skp (w' := w') rfl rfl ?_ (hn w' (hB w' _ f1 hst hs fun b hb => .inl hb))
  have hx' : ev f x = .pointer (some (a.add (j * sz))) := hx
  have hsz : (sizeOf t).run P w = .ok (ev f y).cells.size w := by rw [hTI.size, enc_len1 hu, hE.sz_eq]
  rw [← hu] at hrun
  simp [execOp, hx', Instr.storeAt, Instr.sureAddr, storeVar, hsz, hrun]
theorem s_stF (u : α) {o : Nat} {v : Value} [hT : C1 P t] {j : Nat} (hx : ev f x = pt A (j * sz + o)) [h : Pc L A (own (I := I) e2 A l c xs) put] [hE : Elt P e2 α I sz bytes] (hv : (ev f y).cells.toList = [v]) (hu : (I.enc (nth xs j)).set o v = I.enc u) (ho : o < sz) (h1 : j < l)
    (hn : sO P n w0 f0 ops false rest QC f (put (own (I := I) e2 A l c (xs.set j u)))) : sO P n w0 f0 ops false (⟨none, .store t x y, ty, pos, after, none⟩ :: rest) QC f L := by
  intro w H
  obtain ⟨i, f1, hi, hA, hB⟩ := h.st H
  obtain ⟨a, rfl, _⟩ := row.adr (show (row A l c e2 I.sz (xs.flatMap I.enc)).sat w f1 from hA) (by omega)
  have hxl := (own.len hA).1
  have hfl : (xs.flatMap I.enc).length = l * sz := by rw [flat_len (fun a _ => I.len a), hE.sz_eq, hxl]
  have hjl : j * sz + sz ≤ l * sz := by rw [← Nat.succ_mul]; exact Nat.mul_le_mul_right _ h1
  have hvo : v.oneCell' = true := I.one u v (by rw [← hu]; exact List.mem_set (by rw [I.len, hE.sz_eq]; exact ho) v)
  obtain ⟨w', hrun, hs, hst⟩ := row.put (P := P) (show (row (some a) l c e2 I.sz (xs.flatMap I.enc)).sat w f1 from hA) (j * sz + o) [v] (by simp [hfl]; omega) (fun v' hv' => by simp at hv'; subst hv'; exact hvo)
  have e1 : lay (xs.flatMap I.enc) (j * sz + o) [v] = (xs.set j u).flatMap I.enc := by
    rw [lay_one _ _ _ (by omega), ← hE.sz_eq, ← flat_set (fun a _ => I.len a) (by omega) (I.len u), ← hu]
    apply List.ext_getElem?
    intro q
    unfold lay
    rw [List.length_set, I.len]
    have hat := flat_drop (f := I.enc) (sz := I.sz) (l := xs) (fun a _ => I.len a) j
    have hszp : o < I.sz := by rw [hE.sz_eq]; exact ho
    have hfl' : (xs.flatMap I.enc).length = l * I.sz := by rw [hfl, hE.sz_eq]
    have hjl' : j * I.sz + I.sz ≤ l * I.sz := by rw [hE.sz_eq]; exact hjl
    rw [List.append_assoc]
    rcases Nat.lt_or_ge q (j * I.sz) with hq | hq
    · rw [List.getElem?_set_ne (by omega), List.getElem?_append_left (by rw [List.length_take, hfl']; omega), List.getElem?_take_of_lt hq]
    · rw [List.getElem?_append_right (by rw [List.length_take, hfl']; omega)]
      have e2 : ((xs.flatMap I.enc).take (j * I.sz)).length = j * I.sz := by rw [List.length_take, hfl']; omega
      rw [e2]
      rcases Nat.lt_or_ge q (j * I.sz + I.sz) with hq2 | hq2
      · rw [List.getElem?_append_left (by rw [List.length_set, I.len]; omega)]
        by_cases hqo : q = j * I.sz + o
        · subst hqo
          rw [List.getElem?_set_self (by omega), Nat.add_sub_cancel_left, List.getElem?_set_self (by rw [I.len]; exact hszp)]
        · rw [List.getElem?_set_ne (Ne.symm hqo), List.getElem?_set_ne (by omega)]
          have := flat_get (f := I.enc) (sz := I.sz) (l := xs) (fun a _ => I.len a) (nth_some (xs := xs) (i := j) (by omega)) (o := q - j * I.sz) (by omega)
          rw [← this]; congr 1; omega
      · rw [List.getElem?_append_right (by rw [List.length_set, I.len]; omega), List.getElem?_set_ne (by omega), List.length_set, I.len, List.getElem?_drop]
        congr 1; omega
  rw [e1] at hs
  refine o_skp (w' := w') rfl rfl ?_ (hn w' (hB w' _ f1 hst hs fun b hb => .inl hb))
  have hx' : ev f x = .pointer (some (a.add (j * sz + o))) := hx
  have hsz : (sizeOf t).run P w = .ok (ev f y).cells.size w := by rw [hT.h.sz, ← Array.length_toList, hv]; rfl
  rw [← hv] at hrun
  simp [execOp, hx', Instr.storeAt, Instr.sureAddr, storeVar, hsz, hrun]
theorem PcB.st {b : Nat} (h : PcB L b X put) (H : St w0 f0 L w) : ∃ i, L[i]? = some X ∧ ∀ Y w', St w0 f0 (L.set i Y) w' → St w0 f0 (put Y) w' := by
  obtain ⟨i, h1, h2⟩ := h.at_
  exact ⟨i, h1, fun Y w' h => by rw [h2]; exact h⟩
/-- a field of a block -/
theorem s_stB (u' : α) {b o : Nat} {u : α} {v : Value} [hT : C1 P t] (hx : ev f x = .pointer (some ⟨b, o, none⟩)) [h : PcB L b (var (I := I) e b u) put] (hv : (ev f y).cells.toList = [v]) (hu : (I.enc u).set o v = I.enc u') (ho : o < I.sz)
    (hn : sO P n w0 f0 ops false rest QC f (put (var (I := I) e b u'))) : sO P n w0 f0 ops false (⟨none, .store t x y, ty, pos, after, none⟩ :: rest) QC f L := by
  intro w H
  obtain ⟨i, hi, hB⟩ := h.st H
  have hvo : v.oneCell' = true := I.one u' v (by rw [← hu]; exact List.mem_set (by rw [I.len]; exact ho) v)
  refine o_stB (v := ev f y) (fun w => by rw [hT.h.sz, ← Array.length_toList, hv]; rfl) H i hi hx rfl (by rw [hv, I.len]; simp; omega) (fun u hu' => by rw [hv] at hu'; simp at hu'; subst hu'; exact hvo) fun w' H' => ?_
  rw [hv, lay_one _ _ _ (by rw [I.len]; exact ho), hu] at H'
  exact hn w' (hB _ w' H')
/-- all of a block -/
theorem s_stW (u' : α) {b : Nat} {u : α} [hE : Elt P t α I sz bytes] (hx : ev f x = .pointer (some ⟨b, 0, none⟩)) [h : PcB L b (var (I := I) e b u) put] (hu : (ev f y).cells.toList = I.enc u')
    (hn : sO P n w0 f0 ops false rest QC f (put (var (I := I) e b u'))) : sO P n w0 f0 ops false (⟨none, .store t x y, ty, pos, after, none⟩ :: rest) QC f L := by
  intro w H
  obtain ⟨i, hi, hB⟩ := h.st H
  obtain ⟨zv, hTI, _⟩ := hE.ex
  refine o_stB (v := ev f y) (fun w => by rw [hTI.size, enc_len1 hu, hE.sz_eq]) H i hi hx rfl (by rw [hu, I.len, I.len]; omega) (fun u hu' => by rw [hu] at hu'; exact I.one _ _ hu') fun w' H' => ?_
  rw [hu, lay_all _ _ (by rw [I.len, I.len])] at H'
  exact hn w' (hB _ w' H')
/-- many cells of a block -/
theorem s_stBF (u' : α) {q : Nat} {b o : Nat} {u : α} [hT : CA P t q] (hx : ev f x = .pointer (some ⟨b, o, none⟩)) [h : PcB L b (var (I := I) e b u) put] (hq : (ev f y).cells.size = q) (hu : lay (I.enc u) o (ev f y).cells.toList = I.enc u') (ho : o + q ≤ I.sz)
    (hn : sO P n w0 f0 ops false rest QC f (put (var (I := I) e b u'))) : sO P n w0 f0 ops false (⟨none, .store t x y, ty, pos, after, none⟩ :: rest) QC f L := by
  intro w H
  obtain ⟨i, hi, hB⟩ := h.st H
  refine o_stB (v := ev f y) (fun w => by rw [hT.h.sz, hq]) H i hi hx rfl (by rw [Array.length_toList, hq, I.len]; exact ho) (fun u'' hu'' => ?_) fun w' H' => ?_
  · refine I.one u' u'' ?_
    rw [← hu]; unfold lay
    simp [hu'']
  · rw [hu] at H'
    exact hn w' (hB _ w' H')

/-! appending -/
theorem app_own [hs : SlT P t e] [hE : Elt P e α I sz bytes] (h : Pc L A (own (I := I) e A l c xs) put) (H : St w0 f0 L w) {fr : Fr} (hx : ev fr x = .slice A l c) {tx : TypeId} {k : Nat} (hsrc : Src P sz tx (ev fr y) k (ys.flatMap I.enc) w) (hb : (l + k) * bytes ≤ 140737488355328)
    {Q : Fr → World → Prop} (hd : Nat.blt d n = true) (hn : ∀ A' c' w', St w0 f0 (put (own (I := I) e A' (l + k) c' (xs ++ ys))) w' → wO P ops n false rest Q (up fr d (.slice A' (l + k) c')) w') :
    wO P ops n false (⟨some d, .call { callee := .builtin .append, args := #[x, y], argTypes := #[t, tx] }, ty, pos, after, none⟩ :: rest) Q fr w := by
  obtain ⟨zv, hTI, _⟩ := hE.ex
  obtain ⟨i, h1, h2⟩ := h.at_
  have h1' : L[i]? = some (row A l c e sz (xs.flatMap I.enc)) := by rw [h1, ← hE.sz_eq]; rfl
  refine o_app hs.u hTI H i h1' hx hsrc hb (fun A' c' w' H' => hn A' c' w' ?_) hd
  have e1 : own (I := I) e A' (l + k) c' (xs ++ ys) = row A' (l + k) c' e sz (xs.flatMap I.enc ++ ys.flatMap I.enc) := by unfold own; rw [hE.sz_eq, List.flatMap_append]
  rw [h2, e1]; exact H'
/-- one element -/
theorem s_app1 (u : α) {b : Tmp} {pos1 : String} {after1 : Array Edge} {ty1 : TypeId} [hs : SlT P t e] [hE : Elt P e α I sz bytes] (hx : ∀ v, ev (up f b v) x = .slice A l c) [h : Pc L A (own (I := I) e A l c xs) put] (hu : (ev f y).cells.toList = I.enc u) (hb : (l + 1) * bytes ≤ 140737488355328)
    (hn : ∀ v A' c', sO P n w0 f0 ops false rest QC (up (up f b v) d (.slice A' (l + 1) c')) (put (own (I := I) e A' (l + 1) c' (xs ++ [u])))) (hd : Nat.blt d n = true := by rfl) (hdb : Nat.blt b n = true := by rfl) (hsz : 1 * sz ≤ 16777216 := by decide) :
    sO P n w0 f0 ops false (⟨some b, .buildSlice t 1 #[(0, y)], ty1, pos1, after1, none⟩ :: ⟨some d, .call { callee := .builtin .append, args := #[x, .tmp b], argTypes := #[t, t] }, ty, pos, after, none⟩ :: rest) QC f L := by
  intro w H
  refine lit_own (lp := [(0, y)]) (ty := ty1) [u] rfl hsz (by simp [hu]) H hdb fun q w' H' => ?_
  have hP : Pc (own (I := I) e (some ⟨q, 0, none⟩) 1 1 [u] :: L) A (own (I := I) e A l c xs) (fun Y => own (I := I) e (some ⟨q, 0, none⟩) 1 1 [u] :: put Y) := pc_next
  obtain ⟨g, hA, _⟩ := H'.focus 0 rfl
  have hsrc := Src.row (P := P) hs.u (show (row (some ⟨q, 0, none⟩) 1 1 e I.sz ([u].flatMap I.enc)).sat w' g from hA) (fun u' hu' => by simp at hu'; exact I.one _ _ hu')
  rw [hE.sz_eq] at hsrc
  refine app_own (ys := [u]) hP H' (hx _) (k := 1) (by show Src P sz t (up f b _ b) 1 _ w'; unfold up; rw [Nat.beq_refl]; exact hsrc) hb hd fun A' c' w2 H2 => ?_
  exact hn _ A' c' w2 (H2.drop 0)
/-- one element, behind nothing -/
theorem s_app1N (u : α) {b : Tmp} {pos1 : String} {after1 : Array Edge} {ty1 : TypeId} [hs : SlT P t e] [hE : Elt P e α I sz bytes] (hx : ∀ v, ev (up f b v) x = .slice none 0 0) (hu : (ev f y).cells.toList = I.enc u) (hb : 1 * bytes ≤ 140737488355328)
    (hn : ∀ v A' c', sO P n w0 f0 ops false rest QC (up (up f b v) d (.slice A' 1 c')) (own (I := I) e A' 1 c' [u] :: L)) (hd : Nat.blt d n = true := by rfl) (hdb : Nat.blt b n = true := by rfl) (hsz : 1 * sz ≤ 16777216 := by decide) :
    sO P n w0 f0 ops false (⟨some b, .buildSlice t 1 #[(0, y)], ty1, pos1, after1, none⟩ :: ⟨some d, .call { callee := .builtin .append, args := #[x, .tmp b], argTypes := #[t, t] }, ty, pos, after, none⟩ :: rest) QC f L := by
  have key : sO P n w0 f0 ops false (⟨some b, .buildSlice t 1 #[(0, y)], ty1, pos1, after1, none⟩ :: ⟨some d, .call { callee := .builtin .append, args := #[x, .tmp b], argTypes := #[t, t] }, ty, pos, after, none⟩ :: rest) QC f (own (I := I) e none 0 0 [] :: L) :=
    s_app1 u (xs := []) (h := pc_here) hx hu (by omega) (fun v A' c' => by simpa using hn v A' c') hd hdb hsz
  exact fun w H => key w (H.addNil e I.sz).head
/-- a row more; what is appended stays -/
theorem s_appO [hs : SlT P t e] [hE : Elt P e α I sz bytes] (hx : ev f x = .slice A l c) [h : Pc L A (own (I := I) e A l c xs) put] {put2 : HP → List HP} (hy : ev f y = .slice A2 l2 c2) [h2 : Pc L A2 (own (I := I) e2 A2 l2 c2 ys) put2] (hb : (l + l2) * bytes ≤ 140737488355328)
    (hn : ∀ A' c', sO P n w0 f0 ops false rest QC (up f d (.slice A' (l + l2) c')) (put (own (I := I) e A' (l + l2) c' (xs ++ ys)))) (hd : Nat.blt d n = true := by rfl) :
    sO P n w0 f0 ops false (⟨some d, .call { callee := .builtin .append, args := #[x, y], argTypes := #[t, t] }, ty, pos, after, none⟩ :: rest) QC f L := by
  intro w H
  obtain ⟨i, g, hi, hA, _⟩ := h2.st H
  have hsrc := Src.row (P := P) hs.u (show (row A2 l2 c2 e2 I.sz (ys.flatMap I.enc)).sat w g from hA) (fun u' hu' => by
    obtain ⟨a, _, ha⟩ := List.mem_flatMap.1 hu'; exact I.one _ _ ha)
  rw [hE.sz_eq] at hsrc
  exact app_own h H hx (by rw [hy]; exact hsrc) hb hd fun A' c' w2 H2 => hn A' c' w2 H2
/-- .. of what is only read -/
theorem s_appS [hs : SlT P t e] [hE : Elt P e α I sz bytes] [Dp α] {s : Sl α} (hx : ev f x = .slice A l c) [h : Pc L A (own (I := I) e A l c xs) put] (hy : ev f y = .slice s.A s.xs.length s.c) [h2 : RdD (okOf w0 f0) w0 s] (hb : (l + s.xs.length) * bytes ≤ 140737488355328)
    (hn : ∀ A' c', sO P n w0 f0 ops false rest QC (up f d (.slice A' (l + s.xs.length) c')) (put (own (I := I) e A' (l + s.xs.length) c' (xs ++ s.xs)))) (hd : Nat.blt d n = true := by rfl) :
    sO P n w0 f0 ops false (⟨some d, .call { callee := .builtin .append, args := #[x, y], argTypes := #[t, t] }, ty, pos, after, none⟩ :: rest) QC f L := by
  intro w H
  have hR := h2.h.1
  unfold RdSl at hR
  rw [hE.sz_eq] at hR
  have hsrc := Src.rd (P := P) hs.u (hR.loc H.ok0) (fun u' hu' => by
    obtain ⟨a, _, ha⟩ := List.mem_flatMap.1 hu'; exact I.one _ _ ha)
  exact app_own h H hx (by rw [hy]; exact hsrc) hb hd fun A' c' w2 H2 => hn A' c' w2 H2
theorem s_appSN [hs : SlT P t e] [hE : Elt P e α I sz bytes] [Dp α] {s : Sl α} (hx : ev f x = .slice none 0 0) (hy : ev f y = .slice s.A s.xs.length s.c) [h2 : RdD (okOf w0 f0) w0 s] (hb : s.xs.length * bytes ≤ 140737488355328)
    (hn : ∀ A' c', sO P n w0 f0 ops false rest QC (up f d (.slice A' s.xs.length c')) (own (I := I) e A' s.xs.length c' s.xs :: L)) (hd : Nat.blt d n = true := by rfl) :
    sO P n w0 f0 ops false (⟨some d, .call { callee := .builtin .append, args := #[x, y], argTypes := #[t, t] }, ty, pos, after, none⟩ :: rest) QC f L := by
  have key : sO P n w0 f0 ops false (⟨some d, .call { callee := .builtin .append, args := #[x, y], argTypes := #[t, t] }, ty, pos, after, none⟩ :: rest) QC f (own (I := I) e none 0 0 [] :: L) :=
    s_appS (xs := []) (h := pc_here) hx hy (by rw [Nat.zero_add]; exact hb) (fun A' c' => by simpa using hn A' c') hd
  exact fun w H => key w (H.addNil e I.sz).head

/-! cuts: the row is what is left -/
theorem s_cutL [hs : SlT P t e] [hE : Elt P e α I sz bytes] {k : IntKind} {j : Nat} (hx : ev f x = .slice A l c) (hy : ev f y = .int k (j : Int)) [h : Pc L A (own (I := I) e2 A l c xs) put] (h1 : j ≤ l)
    (hn : ∀ A', sO P n w0 f0 ops m rest QC (up f d (.slice A' (l - j) (c - j))) (put (own (I := I) e2 A' (l - j) (c - j) (xs.drop j)))) (hd : Nat.blt d n = true := by rfl) : sO P n w0 f0 ops m (⟨some d, .slice t x (some y) none none, ty, pos, after, none⟩ :: rest) QC f L := by
  intro w H
  obtain ⟨zv, hTI, _⟩ := hE.ex
  obtain ⟨i, g, hi, hA, hB⟩ := h.st H
  have hl := own.len hA
  have h3 := row.cutL (show (row A l c e2 I.sz (xs.flatMap I.enc)).sat w g from hA) j h1
  rw [flat_drop (fun a _ => I.len a), hE.sz_eq] at h3
  have hg := hB w (own (I := I) e2 (if c = j then A else A.map (·.add (j * sz))) (l - j) (c - j) (xs.drop j)) g (Step.refl _ _) (by unfold own; rw [hE.sz_eq]; exact h3) (fun b hb => .inl hb)
  exact o_cutL hs.u hTI hx hy (by omega) (by omega) (hn _ w hg) hd
theorem s_cutH [hs : SlT P t e] [hE : Elt P e α I sz bytes] {k : IntKind} {j : Int} (hx : ev f x = .slice A l c) (hy : ev f y = .int k j) [h : Pc L A (own (I := I) e2 A l c xs) put] (h0 : 0 ≤ j) (h1 : j ≤ l)
    (hn : sO P n w0 f0 ops m rest QC (up f d (.slice A j.toNat c)) (put (own (I := I) e2 A j.toNat c (xs.take j.toNat)))) (hd : Nat.blt d n = true := by rfl) : sO P n w0 f0 ops m (⟨some d, .slice t x none (some y) none, ty, pos, after, none⟩ :: rest) QC f L := by
  intro w H
  obtain ⟨zv, hTI, _⟩ := hE.ex
  obtain ⟨i, g, hi, hA, hB⟩ := h.st H
  have hl := own.len hA
  have h3 := row.cutH (show (row A l c e2 I.sz (xs.flatMap I.enc)).sat w g from hA) j.toNat (by omega)
  have e3 : (xs.flatMap I.enc).take (j.toNat * I.sz) = (xs.take j.toNat).flatMap I.enc := by
    conv => lhs; rw [← List.take_append_drop j.toNat xs, List.flatMap_append]
    rw [List.take_left' (by rw [flat_len (fun a _ => I.len a), List.length_take]; congr 1; omega)]
  rw [e3] at h3
  have hg := hB w (own (I := I) e2 A j.toNat c (xs.take j.toNat)) g (Step.refl _ _) h3 (fun b hb => .inl hb)
  exact o_cutH hs.u hTI hx hy h0 (by omega) (hn w hg) hd

/-! calls -/
class IsFc (P : Program) (g : FuncId) : Prop where
  ex : ∃ fn, IsF P g fn
def Spec (P : Program) (g : FuncId) (vs : List Value) (L1 : List HP) (Rd : FP → World → Prop) (R : Value → List HP → Prop) : Prop :=
  ∀ w1 f1, SF L1 w1 f1 → Rd (okOf w1 f1) w1 → CallsV P g vs.toArray w1 fun v w' => ∃ L', R v L' ∧ St w1 f1 L' w'
structure Ctx (w0 : World) (f0 : FP) (L1 L2 : List HP) (w1 : World) (f1 : FP) : Prop where
  st : St w0 f0 (L1 ++ L2) w1
  fp : ∀ b, f1 b → f0 b ∨ w0.heap.size ≤ b
  sf : ∃ f2, SF L2 w1 f2 ∧ ∀ b, f1 b → ¬ f2 b
theorem Ctx.rd {w1 : World} {f1 : FP} (h : Ctx w0 f0 L1 L2 w1 f1) {β : Type} [Enc β] [Dp β] {v : β} (k : RdD (okOf w0 f0) w0 v) : RdD (okOf w1 f1) w1 v := k.loc (h.st.ok h.fp)
theorem Ctx.rdB {w1 : World} {f1 : FP} (h : Ctx w0 f0 L1 L2 w1 f1) {b : Nat} {u : α} (k : RdB (I := I) (okOf w0 f0) w0 b u) : RdB (I := I) (okOf w1 f1) w1 b u := ⟨k.h.loc (h.st.ok h.fp)⟩
theorem Ctx.piece {w1 : World} {f1 : FP} (h : Ctx w0 f0 L1 L2 w1 f1) {i : Nat} (hi : L2[i]? = some X) : ∃ g, X.sat w1 g ∧ ∀ b, g b → okOf w1 f1 b := by
  obtain ⟨f2, h1, h2⟩ := h.sf
  obtain ⟨g1, g2, e1, _, e3, _⟩ := h1.focus i hi
  exact ⟨g1, e3, fun b hb => ⟨X.dom e3 b hb, fun hf => h2 b hf ((e1 b).2 (.inl hb))⟩⟩
theorem Ctx.rowd {w1 : World} {f1 : FP} (h : Ctx w0 f0 L1 L2 w1 f1) (A : Option Addr) [hp : Pc L2 A (own (I := I) e A l c xs) put] : xs.length = l ∧ RdSl (okOf w1 f1) w1 (⟨A, c, xs⟩ : Sl α) := by
  obtain ⟨i, h1, _⟩ := hp.at_
  obtain ⟨g, hg, hok⟩ := h.piece h1
  have hl := own.len hg
  refine ⟨hl.1, ?_⟩
  have := row.rd (show (row A l c e I.sz (xs.flatMap I.enc)).sat w1 g from hg) hok
  unfold RdSl
  rw [show (⟨A, c, xs⟩ : Sl α).xs.length = l from hl.1]
  exact this
theorem Ctx.ownI {w1 : World} {f1 : FP} (h : Ctx w0 f0 L1 L2 w1 f1) (A : Option Addr) [D : Dp α] [hp : Pc L2 A (own (I := I) e A l c xs) put] (hd : ∀ x ∈ xs, D.rd (okOf w1 f1) w1 x) : RdD (okOf w1 f1) w1 (⟨A, c, xs⟩ : Sl α) := ⟨(h.rowd A).2, hd⟩
theorem Ctx.var {w1 : World} {f1 : FP} (h : Ctx w0 f0 L1 L2 w1 f1) (b : Nat) {u : α} [hp : PcB L2 b (var (I := I) e b u) put] : RdB (I := I) (okOf w1 f1) w1 b u := by
  obtain ⟨i, h1, _⟩ := hp.at_
  obtain ⟨g, hg, hok⟩ := h.piece h1
  refine ⟨⟨hok b ((hg.1 b).2 rfl), fun j v hj => ?_⟩⟩
  rw [add_spot rfl]
  show w1.cell? ⟨b, 0 + j, none⟩ = some v
  rw [Nat.zero_add, blk.cell hg j]; exact hj

theorem s_call {d : Option Tmp} {g : FuncId} {vs : List Value} {Rd : FP → World → Prop} {RR : Value → List HP → Prop} {lo : List Operand} {ats : Array TypeId} (is : List Nat) (spec : Spec P g vs L1 Rd RR) [hF : IsFc P g] (hv : lo.map (ev f) = vs) (hL : pickL is L = (L1, L2))
    (hrd : ∀ w1 f1, Ctx w0 f0 L1 L2 w1 f1 → Rd (okOf w1 f1) w1) (hn : ∀ v L', RR v L' → sO P n w0 f0 ops false rest QC (upO f d v) (L' ++ L2)) (hd : dOk n d = true := by rfl) :
    sO P n w0 f0 ops false (⟨d, .call { callee := .value (.func g), args := lo.toArray, argTypes := ats }, ty, pos, after, none⟩ :: rest) QC f L := by
  intro w H
  obtain ⟨fn, hF⟩ := hF.ex
  have H2 := H.pick is
  rw [hL] at H2
  obtain ⟨f', hf, hfb⟩ := H2.sf
  obtain ⟨f1, f2, e1, e2, e3, e4⟩ := SF.app.1 hf
  have hb1 : ∀ b, f1 b → f0 b ∨ w0.heap.size ≤ b := fun b hb => hfb b ((e1 b).2 (.inl hb))
  refine o_callN hF hv (spec w f1 e3 (hrd w f1 ⟨H2, hb1, f2, e4, e2⟩)) (fun v w' ⟨L', hR, hs⟩ => hn v L' hR w' ?_) hd
  obtain ⟨hs1, g1, hg, hgb⟩ := hs
  refine ⟨H2.step.trans hs1 hb1, fun b => g1 b ∨ f2 b, SF.app.2 ⟨g1, f2, fun b => Iff.rfl, fun b hb hb2 => ?_, hg, e4.loc fun b hb => hs1.keep b (e4.dom b hb) fun h1 => e2 b h1 hb⟩, ?_⟩
  · rcases hgb b hb with h1 | h1
    · exact e2 b h1 hb2
    · exact absurd (e4.dom b hb2) (Nat.not_lt.2 h1)
  · rintro b (hb | hb)
    · rcases hgb b hb with h1 | h1
      · exact hb1 b h1
      · exact .inr (Nat.le_trans H2.step.size h1)
    · exact hfb b ((e1 b).2 (.inr hb))

def doneS (P : Program) (fn : Func) (w0 : World) (f0 : FP) (RR : Value → List HP → Prop) : Exit → Fr → World → Prop
  | .ret, f, w => ∃ v, resF P fn f w v ∧ ∃ L', RR v L' ∧ St w0 f0 L' w
  | .normal, f, w => ∃ v, resF P fn f w v ∧ ∃ L', RR v L' ∧ St w0 f0 L' w
  | _, _, _ => False
theorem spec_of {g : FuncId} {fn : Func} {c : Code} {vs : List Value} {Rd : FP → World → Prop} {RR : Value → List HP → Prop} (hf : P.funcs[g]? = some fn) (hb : fn.body = some c) (hn : Nat.ble vs.length fn.ntmps = true)
    (h : ∀ w0 f0, Rd (okOf w0 f0) w0 → sC P fn.ntmps w0 f0 c (doneS P fn w0 f0 RR) (fr0 vs) L1) : Spec P g vs L1 Rd RR := by
  intro w1 f1 hs hr
  refine calls_ofG hf hb hn (wC_mono (h w1 f1 hr w1 (St.start hs)) ?_)
  intro e f w q
  cases e <;> exact q
theorem e_done {fn : Func} {RR : Value → List HP → Prop} {t : Tmp} (hr : fn.results = #[.tmp t]) (ht : Nat.blt t fn.ntmps = true) (L' : List HP) (hL : PSub w0 f0 L L') (hR : RR (f t) L') : sE w0 f0 (doneS P fn w0 f0 RR) .ret f L :=
  fun w H => ⟨f t, fun a ha => by rw [results_tmp hr, ha.get (by rw [← Nat.blt_eq]; exact ht)], L', hR, hL w H⟩
theorem e_doneN {fn : Func} {RR : Value → List HP → Prop} {t : Tmp} (hr : fn.results = #[.tmp t]) (ht : Nat.blt t fn.ntmps = true) (L' : List HP) (hL : PSub w0 f0 L L') (hR : RR (f t) L') : sE w0 f0 (doneS P fn w0 f0 RR) .normal f L :=
  fun w H => ⟨f t, fun a ha => by rw [results_tmp hr, ha.get (by rw [← Nat.blt_eq]; exact ht)], L', hR, hL w H⟩
theorem e_done0 {fn : Func} {RR : Value → List HP → Prop} (hr : fn.results = #[]) (L' : List HP) (hL : PSub w0 f0 L L') (hR : RR (.tuple #[]) L') : sE w0 f0 (doneS P fn w0 f0 RR) .ret f L :=
  fun w H => ⟨.tuple #[], res_none hr, L', hR, hL w H⟩
theorem e_done0N {fn : Func} {RR : Value → List HP → Prop} (hr : fn.results = #[]) (L' : List HP) (hL : PSub w0 f0 L L') (hR : RR (.tuple #[]) L') : sE w0 f0 (doneS P fn w0 f0 RR) .normal f L :=
  fun w H => ⟨.tuple #[], res_none hr, L', hR, hL w H⟩
theorem e_done2 {fn : Func} {RR : Value → List HP → Prop} {t u : Tmp} (hr : fn.results = #[.tmp t, .tmp u]) (ht : Nat.blt t fn.ntmps = true) (hu : Nat.blt u fn.ntmps = true) (L' : List HP) (hL : PSub w0 f0 L L') (hR : RR (.tuple #[f t, f u]) L') : sE w0 f0 (doneS P fn w0 f0 RR) .ret f L :=
  fun w H => ⟨_, res_two hr ht hu rfl rfl, L', hR, hL w H⟩
/-- The result lies in a block. -/
theorem e_doneC {fn : Func} {RR : Value → List HP → Prop} {t : Tmp} {tt : TypeId} {q b : Nat} {u : α} (hr : fn.results = #[.cell t tt]) (ht : Nat.blt t fn.ntmps = true) [hT : CA P tt q] (hx : f t = .pointer (some ⟨b, 0, none⟩)) [h : PcB L b (var (I := I) e b u) put] (hq : q = I.sz) (L' : List HP) (hL : PSub w0 f0 L L') (hR : RR (.agg (I.enc u).toArray) L') : sE w0 f0 (doneS P fn w0 f0 RR) .ret f L := by
  intro w H
  obtain ⟨i, hi, _⟩ := h.at_
  obtain ⟨g, hA, _⟩ := H.focus i hi
  refine ⟨_, res_cell hr ht hx (ldA hT.h (by rw [I.len, hq]) fun j v hj => ?_), L', hR, hL w H⟩
  rw [add_spot rfl]
  show w.cell? ⟨b, 0 + j, none⟩ = some v
  rw [Nat.zero_add, blk.cell hA j]; exact hj
end
attribute [irreducible] doneS
end Go.Proofs.Ytfplmdjlgjgbgaa
