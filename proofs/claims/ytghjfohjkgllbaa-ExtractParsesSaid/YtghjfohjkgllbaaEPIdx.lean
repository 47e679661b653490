/- The IDs of a schema, all of them; the document's FieldOf, HeaderOf, StateOf. -/
import Derived.Test.YtghjfohjkgllbaaEPBC
import Derived.Test.YtghjfohjkgllbaaFsJ
set_option linter.unusedSimpArgs false
set_option linter.unusedVariables false
set_option maxRecDepth 10000
namespace Go.Proofs
open Go.Ns

/-- Rows of 'e' cells, each with a number ahead. -/
def IdRows (h : Heap) (e : Nat) (v : NV) (l : List Int) : Prop :=
  ∃ a c, v = .slice a l.length c ∧ l.length ≤ 20 ∧ (0 < l.length → ∃ b cs ro, a = some (b, 0) ∧ hget h b = some (.cells cs ro) ∧ ∀ j (hj : j < l.length), ∃ ys, cut cs (j * e) e = some (.int .i64 l[j] :: ys) ∧ ys.all NV.one = true ∧ ys.length + 1 = e)
theorem IdRows.mono {h h' : Heap} {e : Nat} {v : NV} {l : List Int} (r : IdRows h e v l) (o : ∀ b, b < h.length → hget h' b = hget h b) : IdRows h' e v l := by
  obtain ⟨a, c, h1, h2, h3⟩ := r
  refine ⟨a, c, h1, h2, fun hn => ?_⟩
  obtain ⟨b, cs, ro, g1, g2, g3⟩ := h3 hn
  exact ⟨b, cs, ro, g1, by rw [o b (hget_lt g2)]; exact g2, g3⟩
theorem IdRows.one {h : Heap} {e : Nat} {v : NV} {l : List Int} (r : IdRows h e v l) : v.one = true := by
  obtain ⟨a, c, rfl, _⟩ := r; rfl
def ints (l : List Int) : List NV := l.map (.int .i64)
theorem ints_step {l : List Int} {j : Nat} (hj : j < l.length) : ints (l.take (j + 1)) = ints (l.take j) ++ [.int .i64 l[j]] := by
  unfold ints
  rw [List.take_add_one, List.getElem?_eq_getElem hj, List.map_append]; rfl
theorem ints_length {l : List Int} {j : Nat} (h : l.length ≤ 20) : (ints (l.take j)).length ≤ 20 := by
  unfold ints; rw [List.length_map, List.length_take]; omega

structure IdxH (H : Heap) (zs : List NV) (h : Heap) : Prop where
  len : H.length + 3 ≤ h.length
  old : ∀ b, b < H.length → hget h b = hget H b
  box : hget h H.length = some (.cells zs false)
  res : hget h (H.length + 1) = some (.cells [.slice none 0 (.fix 0), .slice none 0 (.fix 0), .slice none 0 (.fix 0), .slice none 0 (.fix 0), .slice none 0 (.fix 0), .slice none 0 (.fix 0)] false)
theorem IdxH.mono {H : Heap} {zs : List NV} {h h' : Heap} (i : IdxH H zs h) (hl : h.length ≤ h'.length) (o : ∀ b, b < H.length + 2 → hget h' b = hget h b) : IdxH H zs h' :=
  ⟨Nat.le_trans i.len hl, fun b hb => by rw [o b (by omega)]; exact i.old b hb, by rw [o _ (by omega)]; exact i.box, by rw [o _ (by omega)]; exact i.res⟩
theorem GrC.one1 {h : Heap} {N : Nat} {C : List NV} {v : NV} (g : GrC h N C 1 v) : v.one = true := g.one

def idsQ (H : Heap) (l0 l1 l2 l3 l4 l5 : List Int) (r : NV × Heap) : Prop := ∃ w0 w1 w2 w3 w4 w5, r.1 = .agg [w0, w1, w2, w3, w4, w5] ∧ H.length ≤ r.2.length ∧ (∀ b, b < H.length → hget r.2 b = hget H b) ∧ GrC r.2 H.length (ints l0) 1 w0 ∧ GrC r.2 H.length (ints l1) 1 w1 ∧ GrC r.2 H.length (ints l2) 1 w2 ∧ GrC r.2 H.length (ints l3) 1 w3 ∧ GrC r.2 H.length (ints l4) 1 w4 ∧ GrC r.2 H.length (ints l5) 1 w5

set_option maxHeartbeats 4000000 in
theorem idx_ids (H : Heap) (l0 l1 l2 l3 l4 l5 : List Int) (z0 z1 z2 z3 z4 z5 z6 z7 z8 z9 : NV) (r0 : IdRows H 3 z0 l0) (r1 : IdRows H 3 z1 l1) (r2 : IdRows H 5 z2 l2) (r3 : IdRows H 5 z3 l3) (r4 : IdRows H 8 z4 l4) (r5 : IdRows H 6 z6 l5) (ho : z5.one = true ∧ z7.one = true ∧ z8.one = true ∧ z9.one = true) :
    DCall Try.prog 48 [.agg [z0, z1, z2, z3, z4, z5, z6, z7, z8, z9]] H (idsQ H l0 l1 l2 l3 l4 l5) := by
  obtain ⟨h5, h7, h8, h9⟩ := ho
  obtain ⟨a0, c0, rfl, n0, row0⟩ := r0
  obtain ⟨a1, c1, rfl, n1, row1⟩ := r1
  obtain ⟨a2, c2, rfl, n2, row2⟩ := r2
  obtain ⟨a3, c3, rfl, n3, row3⟩ := r3
  obtain ⟨a4, c4, rfl, n4, row4⟩ := r4
  obtain ⟨a5, c5, rfl, n5, row5⟩ := r5
  refine call_det E0 rfl mixed t48_ok (by kernel_rfl) (by rintro q ⟨_, _, _, _, _, _, _, h, _⟩; exact h) ?_
  simp only [t48]
  simp (disch := first | omega | (simp only [fsLen]; omega)) only [↓fsPre, fsPost, fsCond, fsGen, fsDefs, fsDefX, cls, eqVal, reduceCtorEq, Nat.reduceAdd, Nat.reduceMul, Nat.reduceSub, Nat.reduceLT, Nat.reduceLeDiff, Nat.reduceEqDiff, Nat.reduceBEq, Nat.reduceBNe, Int.reduceLT, Int.reduceLE, Int.reduceEq, Int.reduceNe, Int.reduceAdd, Int.reduceSub, Int.reduceNeg, Int.reduceToNat, Int.reduceMul, ↓reduceIte, Int.reduceGT, Int.reduceGE, h5, h7, h8, h9]
  refine wloop (fun j F h => F 1 = .ptr (some (H.length, 0)) ∧ F 2 = .ptr (some (H.length + 1, 0)) ∧ F 3 = .ptr (some (H.length + 2, 0)) ∧ F 17 = .slice a0 l0.length c0 ∧ F 18 = .int .i64 l0.length ∧ F 19 = .int .i64 j ∧ IdxH H [.slice a0 l0.length c0, .slice a1 l1.length c1, .slice a2 l2.length c2, .slice a3 l3.length c3, .slice a4 l4.length c4, z5, .slice a5 l5.length c5, z7, z8, z9] h ∧ ∃ v, hget h (H.length + 2) = some (.cells [v, .slice none 0 (.fix 0), .slice none 0 (.fix 0), .slice none 0 (.fix 0), .slice none 0 (.fix 0), .slice none 0 (.fix 0)] false) ∧ GrC h (H.length + 3) (ints (l0.take j)) 1 v) l0.length ?_ ?_ ?_
  · simp (disch := first | omega | (simp only [fsLen]; omega)) only [↓fsPre, fsPost, fsCond, fsGen, fsDefs, fsDefX, cls, eqVal, reduceCtorEq, Nat.reduceAdd, Nat.reduceMul, Nat.reduceSub, Nat.reduceLT, Nat.reduceLeDiff, Nat.reduceEqDiff, Nat.reduceBEq, Nat.reduceBNe, Int.reduceLT, Int.reduceLE, Int.reduceEq, Int.reduceNe, Int.reduceAdd, Int.reduceSub, Int.reduceNeg, Int.reduceToNat, Int.reduceMul, ↓reduceIte, Int.reduceGT, Int.reduceGE]
    exact ⟨⟨by simp only [List.length_append, List.length_cons, List.length_nil]; omega, fun b hb => hget_appl hb, by simp (disch := first | omega | (simp only [fsLen]; omega)) only [↓fsPre, fsPost, fsCond, fsGen, fsDefs, fsDefX, cls, eqVal, reduceCtorEq, Nat.reduceAdd, Nat.reduceMul, Nat.reduceSub, Nat.reduceLT, Nat.reduceLeDiff, Nat.reduceEqDiff, Nat.reduceBEq, Nat.reduceBNe, Int.reduceLT, Int.reduceLE, Int.reduceEq, Int.reduceNe, Int.reduceAdd, Int.reduceSub, Int.reduceNeg, Int.reduceToNat, Int.reduceMul, ↓reduceIte, Int.reduceGT, Int.reduceGE], by simp (disch := first | omega | (simp only [fsLen]; omega)) only [↓fsPre, fsPost, fsCond, fsGen, fsDefs, fsDefX, cls, eqVal, reduceCtorEq, Nat.reduceAdd, Nat.reduceMul, Nat.reduceSub, Nat.reduceLT, Nat.reduceLeDiff, Nat.reduceEqDiff, Nat.reduceBEq, Nat.reduceBNe, Int.reduceLT, Int.reduceLE, Int.reduceEq, Int.reduceNe, Int.reduceAdd, Int.reduceSub, Int.reduceNeg, Int.reduceToNat, Int.reduceMul, ↓reduceIte, Int.reduceGT, Int.reduceGE]⟩, _, rfl, .nil⟩
  · rintro j F h hj ⟨f1, f2, f3, fl, fn, fi, ih, v, hw, hg⟩
    have hl3 := ih.len
    have uk := hg.one
    obtain ⟨B, cs, ro, ea, hB, hr⟩ := row0 (by omega)
    obtain ⟨ys, hc, oy, ly⟩ := hr j hj
    have hBl := hget_some_lt hB
    have hB' : hget h B = some (.cells cs ro) := by rw [ih.old B hBl]; exact hB
    have ly' : ys.length = 2 := by omega
    simp (disch := first | omega | (simp only [fsLen]; omega)) only [↓fsPre, fsPost, fsCond, fsGen, fsDefs, fsDefX, cls, eqVal, reduceCtorEq, Nat.reduceAdd, Nat.reduceMul, Nat.reduceSub, Nat.reduceLT, Nat.reduceLeDiff, Nat.reduceEqDiff, Nat.reduceBEq, Nat.reduceBNe, Int.reduceLT, Int.reduceLE, Int.reduceEq, Int.reduceNe, Int.reduceAdd, Int.reduceSub, Int.reduceNeg, Int.reduceToNat, Int.reduceMul, ↓reduceIte, Int.reduceGT, Int.reduceGE, f1, f2, f3, fl, fn, fi, hw, ea, hB', hc, oy, ly', uk]
    refine grc_app (N := (H.length + 3)) (hg.ext Ext.app) (by simp only [List.length_append]; omega) (sliceCells_at (by simp (disch := first | omega | (simp only [fsLen]; omega)) only [↓fsPre, fsPost, fsCond, fsGen, fsDefs, fsDefX, cls, eqVal, reduceCtorEq, Nat.reduceAdd, Nat.reduceMul, Nat.reduceSub, Nat.reduceLT, Nat.reduceLeDiff, Nat.reduceEqDiff, Nat.reduceBEq, Nat.reduceBNe, Int.reduceLT, Int.reduceLE, Int.reduceEq, Int.reduceNe, Int.reduceAdd, Int.reduceSub, Int.reduceNeg, Int.reduceToNat, Int.reduceMul, ↓reduceIte, Int.reduceGT, Int.reduceGE] <;> rfl) rfl) rfl (by omega) (by omega) rfl (by have := ints_length (j := j) n0; omega) (by omega) (by omega) ?_
    intro v' h' hg' hl' old'
    have hw' : hget h' (H.length + 2) = some (.cells [v, .slice none 0 (.fix 0), .slice none 0 (.fix 0), .slice none 0 (.fix 0), .slice none 0 (.fix 0), .slice none 0 (.fix 0)] false) := by
      rw [old' _ (by omega)]; simp (disch := first | omega | (simp only [fsLen]; omega)) only [↓fsPre, fsPost, fsCond, fsGen, fsDefs, fsDefX, cls, eqVal, reduceCtorEq, Nat.reduceAdd, Nat.reduceMul, Nat.reduceSub, Nat.reduceLT, Nat.reduceLeDiff, Nat.reduceEqDiff, Nat.reduceBEq, Nat.reduceBNe, Int.reduceLT, Int.reduceLE, Int.reduceEq, Int.reduceNe, Int.reduceAdd, Int.reduceSub, Int.reduceNeg, Int.reduceToNat, Int.reduceMul, ↓reduceIte, Int.reduceGT, Int.reduceGE, hw]
    have hwl := hget_some_lt hw'
    have wv := hg'.one
    simp (disch := first | omega | (simp only [fsLen]; omega)) only [↓fsPre, fsPost, fsCond, fsGen, fsDefs, fsDefX, cls, eqVal, reduceCtorEq, Nat.reduceAdd, Nat.reduceMul, Nat.reduceSub, Nat.reduceLT, Nat.reduceLeDiff, Nat.reduceEqDiff, Nat.reduceBEq, Nat.reduceBNe, Int.reduceLT, Int.reduceLE, Int.reduceEq, Int.reduceNe, Int.reduceAdd, Int.reduceSub, Int.reduceNeg, Int.reduceToNat, Int.reduceMul, ↓reduceIte, Int.reduceGT, Int.reduceGE, f1, f2, f3, fl, fn, fi, hw', wv, flat_one wv, cells_one wv]
    simp (disch := first | omega | (simp only [fsLen]; omega)) only [↓fsPre, fsPost, fsCond, fsGen, fsDefs, fsDefX, cls, eqVal, reduceCtorEq, Nat.reduceAdd, Nat.reduceMul, Nat.reduceSub, Nat.reduceLT, Nat.reduceLeDiff, Nat.reduceEqDiff, Nat.reduceBEq, Nat.reduceBNe, Int.reduceLT, Int.reduceLE, Int.reduceEq, Int.reduceNe, Int.reduceAdd, Int.reduceSub, Int.reduceNeg, Int.reduceToNat, Int.reduceMul, ↓reduceIte, Int.reduceGT, Int.reduceGE] at hl'
    refine ⟨ih.mono (by rw [length_hset]; omega) fun b hb => ?_, v', rfl, ?_⟩
    · rw [hget_hset_ne (by omega), old' b (by omega), hget_appl (by omega)]
    · rw [ints_step hj]; exact GrC.ext hg' (Ext.set (by omega))
  rintro F g ⟨f1, f2, f3, fl, fn, fi, ih, w0, hw, hg⟩
  rw [List.take_length] at hg
  have q0 := hg
  have u0 := hg.one
  clear hg
  have hgl := ih.len
  have hbox := ih.box
  simp (disch := first | omega | (simp only [fsLen]; omega)) only [↓fsPre, fsPost, fsCond, fsGen, fsDefs, fsDefX, cls, eqVal, reduceCtorEq, Nat.reduceAdd, Nat.reduceMul, Nat.reduceSub, Nat.reduceLT, Nat.reduceLeDiff, Nat.reduceEqDiff, Nat.reduceBEq, Nat.reduceBNe, Int.reduceLT, Int.reduceLE, Int.reduceEq, Int.reduceNe, Int.reduceAdd, Int.reduceSub, Int.reduceNeg, Int.reduceToNat, Int.reduceMul, ↓reduceIte, Int.reduceGT, Int.reduceGE, f1, f2, f3, fl, fn, fi, hbox, h5, h7, h8, h9, u0]
  refine wloop (fun j F h => F 1 = .ptr (some (H.length, 0)) ∧ F 2 = .ptr (some (H.length + 1, 0)) ∧ F 3 = .ptr (some (H.length + 2, 0)) ∧ F 32 = .slice a1 l1.length c1 ∧ F 33 = .int .i64 l1.length ∧ F 34 = .int .i64 j ∧ IdxH H [.slice a0 l0.length c0, .slice a1 l1.length c1, .slice a2 l2.length c2, .slice a3 l3.length c3, .slice a4 l4.length c4, z5, .slice a5 l5.length c5, z7, z8, z9] h ∧ g.length ≤ h.length ∧ (∀ b, b < g.length → b ≠ H.length + 2 → hget h b = hget g b) ∧ ∃ v, hget h (H.length + 2) = some (.cells [w0, v, .slice none 0 (.fix 0), .slice none 0 (.fix 0), .slice none 0 (.fix 0), .slice none 0 (.fix 0)] false) ∧ GrC h g.length (ints (l1.take j)) 1 v) l1.length ?_ ?_ ?_
  · simp (disch := first | omega | (simp only [fsLen]; omega)) only [↓fsPre, fsPost, fsCond, fsGen, fsDefs, fsDefX, cls, eqVal, reduceCtorEq, Nat.reduceAdd, Nat.reduceMul, Nat.reduceSub, Nat.reduceLT, Nat.reduceLeDiff, Nat.reduceEqDiff, Nat.reduceBEq, Nat.reduceBNe, Int.reduceLT, Int.reduceLE, Int.reduceEq, Int.reduceNe, Int.reduceAdd, Int.reduceSub, Int.reduceNeg, Int.reduceToNat, Int.reduceMul, ↓reduceIte, Int.reduceGT, Int.reduceGE, f1, f2, f3, hw]
    exact ⟨ih, _, rfl, .nil⟩
  · rintro j F h hj ⟨f1, f2, f3, fl, fn, fi, ih, hgh, hold, v, hw, hg⟩
    have hl3 := ih.len
    have uk := hg.one
    obtain ⟨B, cs, ro, ea, hB, hr⟩ := row1 (by omega)
    obtain ⟨ys, hc, oy, ly⟩ := hr j hj
    have hBl := hget_some_lt hB
    have hB' : hget h B = some (.cells cs ro) := by rw [ih.old B hBl]; exact hB
    have ly' : ys.length = 2 := by omega
    simp (disch := first | omega | (simp only [fsLen]; omega)) only [↓fsPre, fsPost, fsCond, fsGen, fsDefs, fsDefX, cls, eqVal, reduceCtorEq, Nat.reduceAdd, Nat.reduceMul, Nat.reduceSub, Nat.reduceLT, Nat.reduceLeDiff, Nat.reduceEqDiff, Nat.reduceBEq, Nat.reduceBNe, Int.reduceLT, Int.reduceLE, Int.reduceEq, Int.reduceNe, Int.reduceAdd, Int.reduceSub, Int.reduceNeg, Int.reduceToNat, Int.reduceMul, ↓reduceIte, Int.reduceGT, Int.reduceGE, f1, f2, f3, fl, fn, fi, hw, ea, hB', hc, oy, ly', uk, u0]
    refine grc_app (N := g.length) (hg.ext Ext.app) (by simp only [List.length_append]; omega) (sliceCells_at (by simp (disch := first | omega | (simp only [fsLen]; omega)) only [↓fsPre, fsPost, fsCond, fsGen, fsDefs, fsDefX, cls, eqVal, reduceCtorEq, Nat.reduceAdd, Nat.reduceMul, Nat.reduceSub, Nat.reduceLT, Nat.reduceLeDiff, Nat.reduceEqDiff, Nat.reduceBEq, Nat.reduceBNe, Int.reduceLT, Int.reduceLE, Int.reduceEq, Int.reduceNe, Int.reduceAdd, Int.reduceSub, Int.reduceNeg, Int.reduceToNat, Int.reduceMul, ↓reduceIte, Int.reduceGT, Int.reduceGE] <;> rfl) rfl) rfl (by omega) (by omega) rfl (by have := ints_length (j := j) n1; omega) (by omega) (by omega) ?_
    intro v' h' hg' hl' old'
    have hw' : hget h' (H.length + 2) = some (.cells [w0, v, .slice none 0 (.fix 0), .slice none 0 (.fix 0), .slice none 0 (.fix 0), .slice none 0 (.fix 0)] false) := by
      rw [old' _ (by omega)]; simp (disch := first | omega | (simp only [fsLen]; omega)) only [↓fsPre, fsPost, fsCond, fsGen, fsDefs, fsDefX, cls, eqVal, reduceCtorEq, Nat.reduceAdd, Nat.reduceMul, Nat.reduceSub, Nat.reduceLT, Nat.reduceLeDiff, Nat.reduceEqDiff, Nat.reduceBEq, Nat.reduceBNe, Int.reduceLT, Int.reduceLE, Int.reduceEq, Int.reduceNe, Int.reduceAdd, Int.reduceSub, Int.reduceNeg, Int.reduceToNat, Int.reduceMul, ↓reduceIte, Int.reduceGT, Int.reduceGE, hw]
    have hwl := hget_some_lt hw'
    have wv := hg'.one
    simp (disch := first | omega | (simp only [fsLen]; omega)) only [↓fsPre, fsPost, fsCond, fsGen, fsDefs, fsDefX, cls, eqVal, reduceCtorEq, Nat.reduceAdd, Nat.reduceMul, Nat.reduceSub, Nat.reduceLT, Nat.reduceLeDiff, Nat.reduceEqDiff, Nat.reduceBEq, Nat.reduceBNe, Int.reduceLT, Int.reduceLE, Int.reduceEq, Int.reduceNe, Int.reduceAdd, Int.reduceSub, Int.reduceNeg, Int.reduceToNat, Int.reduceMul, ↓reduceIte, Int.reduceGT, Int.reduceGE, f1, f2, f3, fl, fn, fi, hw', wv, flat_one wv, cells_one wv, u0]
    simp (disch := first | omega | (simp only [fsLen]; omega)) only [↓fsPre, fsPost, fsCond, fsGen, fsDefs, fsDefX, cls, eqVal, reduceCtorEq, Nat.reduceAdd, Nat.reduceMul, Nat.reduceSub, Nat.reduceLT, Nat.reduceLeDiff, Nat.reduceEqDiff, Nat.reduceBEq, Nat.reduceBNe, Int.reduceLT, Int.reduceLE, Int.reduceEq, Int.reduceNe, Int.reduceAdd, Int.reduceSub, Int.reduceNeg, Int.reduceToNat, Int.reduceMul, ↓reduceIte, Int.reduceGT, Int.reduceGE] at hl'
    refine ⟨ih.mono (by rw [length_hset]; omega) fun b hb => ?_, by omega, fun b hb hne => ?_, v', rfl, ?_⟩
    · rw [hget_hset_ne (by omega), old' b (by omega), hget_appl (by omega)]
    · rw [hget_hset_ne (by omega), old' b (by omega), hget_appl (by omega)]; exact hold b hb hne
    · rw [ints_step hj]; exact GrC.ext hg' (Ext.set (by omega))
  have hgl0 := hgl
  clear ih hw hbox
  rintro F g' ⟨f1, f2, f3, fl, fn, fi, ih, hgh, hold, w1, hw, hg⟩
  rw [List.take_length] at hg
  replace q0 : GrC g' (H.length + 3) (ints l0) 1 w0 := q0.ext fun b x hb hx => by rw [hold b (hget_lt hx) (by omega)]; exact hx
  have q1 : GrC g' (H.length + 3) (ints l1) 1 w1 := hg.low (by omega)
  have u1 := hg.one
  clear hg hold hgh hgl hgl0
  rename_i g0
  clear g0
  generalize g' = g at *
  have hgl := ih.len
  have hbox := ih.box
  simp (disch := first | omega | (simp only [fsLen]; omega)) only [↓fsPre, fsPost, fsCond, fsGen, fsDefs, fsDefX, cls, eqVal, reduceCtorEq, Nat.reduceAdd, Nat.reduceMul, Nat.reduceSub, Nat.reduceLT, Nat.reduceLeDiff, Nat.reduceEqDiff, Nat.reduceBEq, Nat.reduceBNe, Int.reduceLT, Int.reduceLE, Int.reduceEq, Int.reduceNe, Int.reduceAdd, Int.reduceSub, Int.reduceNeg, Int.reduceToNat, Int.reduceMul, ↓reduceIte, Int.reduceGT, Int.reduceGE, f1, f2, f3, fl, fn, fi, hbox, h5, h7, h8, h9, u0, u1]
  refine wloop (fun j F h => F 1 = .ptr (some (H.length, 0)) ∧ F 2 = .ptr (some (H.length + 1, 0)) ∧ F 3 = .ptr (some (H.length + 2, 0)) ∧ F 47 = .slice a2 l2.length c2 ∧ F 48 = .int .i64 l2.length ∧ F 49 = .int .i64 j ∧ IdxH H [.slice a0 l0.length c0, .slice a1 l1.length c1, .slice a2 l2.length c2, .slice a3 l3.length c3, .slice a4 l4.length c4, z5, .slice a5 l5.length c5, z7, z8, z9] h ∧ g.length ≤ h.length ∧ (∀ b, b < g.length → b ≠ H.length + 2 → hget h b = hget g b) ∧ ∃ v, hget h (H.length + 2) = some (.cells [w0, w1, v, .slice none 0 (.fix 0), .slice none 0 (.fix 0), .slice none 0 (.fix 0)] false) ∧ GrC h g.length (ints (l2.take j)) 1 v) l2.length ?_ ?_ ?_
  · simp (disch := first | omega | (simp only [fsLen]; omega)) only [↓fsPre, fsPost, fsCond, fsGen, fsDefs, fsDefX, cls, eqVal, reduceCtorEq, Nat.reduceAdd, Nat.reduceMul, Nat.reduceSub, Nat.reduceLT, Nat.reduceLeDiff, Nat.reduceEqDiff, Nat.reduceBEq, Nat.reduceBNe, Int.reduceLT, Int.reduceLE, Int.reduceEq, Int.reduceNe, Int.reduceAdd, Int.reduceSub, Int.reduceNeg, Int.reduceToNat, Int.reduceMul, ↓reduceIte, Int.reduceGT, Int.reduceGE, f1, f2, f3, hw]
    exact ⟨ih, _, rfl, .nil⟩
  · rintro j F h hj ⟨f1, f2, f3, fl, fn, fi, ih, hgh, hold, v, hw, hg⟩
    have hl3 := ih.len
    have uk := hg.one
    obtain ⟨B, cs, ro, ea, hB, hr⟩ := row2 (by omega)
    obtain ⟨ys, hc, oy, ly⟩ := hr j hj
    have hBl := hget_some_lt hB
    have hB' : hget h B = some (.cells cs ro) := by rw [ih.old B hBl]; exact hB
    have ly' : ys.length = 4 := by omega
    simp (disch := first | omega | (simp only [fsLen]; omega)) only [↓fsPre, fsPost, fsCond, fsGen, fsDefs, fsDefX, cls, eqVal, reduceCtorEq, Nat.reduceAdd, Nat.reduceMul, Nat.reduceSub, Nat.reduceLT, Nat.reduceLeDiff, Nat.reduceEqDiff, Nat.reduceBEq, Nat.reduceBNe, Int.reduceLT, Int.reduceLE, Int.reduceEq, Int.reduceNe, Int.reduceAdd, Int.reduceSub, Int.reduceNeg, Int.reduceToNat, Int.reduceMul, ↓reduceIte, Int.reduceGT, Int.reduceGE, f1, f2, f3, fl, fn, fi, hw, ea, hB', hc, oy, ly', uk, u0, u1]
    refine grc_app (N := g.length) (hg.ext Ext.app) (by simp only [List.length_append]; omega) (sliceCells_at (by simp (disch := first | omega | (simp only [fsLen]; omega)) only [↓fsPre, fsPost, fsCond, fsGen, fsDefs, fsDefX, cls, eqVal, reduceCtorEq, Nat.reduceAdd, Nat.reduceMul, Nat.reduceSub, Nat.reduceLT, Nat.reduceLeDiff, Nat.reduceEqDiff, Nat.reduceBEq, Nat.reduceBNe, Int.reduceLT, Int.reduceLE, Int.reduceEq, Int.reduceNe, Int.reduceAdd, Int.reduceSub, Int.reduceNeg, Int.reduceToNat, Int.reduceMul, ↓reduceIte, Int.reduceGT, Int.reduceGE] <;> rfl) rfl) rfl (by omega) (by omega) rfl (by have := ints_length (j := j) n2; omega) (by omega) (by omega) ?_
    intro v' h' hg' hl' old'
    have hw' : hget h' (H.length + 2) = some (.cells [w0, w1, v, .slice none 0 (.fix 0), .slice none 0 (.fix 0), .slice none 0 (.fix 0)] false) := by
      rw [old' _ (by omega)]; simp (disch := first | omega | (simp only [fsLen]; omega)) only [↓fsPre, fsPost, fsCond, fsGen, fsDefs, fsDefX, cls, eqVal, reduceCtorEq, Nat.reduceAdd, Nat.reduceMul, Nat.reduceSub, Nat.reduceLT, Nat.reduceLeDiff, Nat.reduceEqDiff, Nat.reduceBEq, Nat.reduceBNe, Int.reduceLT, Int.reduceLE, Int.reduceEq, Int.reduceNe, Int.reduceAdd, Int.reduceSub, Int.reduceNeg, Int.reduceToNat, Int.reduceMul, ↓reduceIte, Int.reduceGT, Int.reduceGE, hw]
    have hwl := hget_some_lt hw'
    have wv := hg'.one
    simp (disch := first | omega | (simp only [fsLen]; omega)) only [↓fsPre, fsPost, fsCond, fsGen, fsDefs, fsDefX, cls, eqVal, reduceCtorEq, Nat.reduceAdd, Nat.reduceMul, Nat.reduceSub, Nat.reduceLT, Nat.reduceLeDiff, Nat.reduceEqDiff, Nat.reduceBEq, Nat.reduceBNe, Int.reduceLT, Int.reduceLE, Int.reduceEq, Int.reduceNe, Int.reduceAdd, Int.reduceSub, Int.reduceNeg, Int.reduceToNat, Int.reduceMul, ↓reduceIte, Int.reduceGT, Int.reduceGE, f1, f2, f3, fl, fn, fi, hw', wv, flat_one wv, cells_one wv, u0, u1]
    simp (disch := first | omega | (simp only [fsLen]; omega)) only [↓fsPre, fsPost, fsCond, fsGen, fsDefs, fsDefX, cls, eqVal, reduceCtorEq, Nat.reduceAdd, Nat.reduceMul, Nat.reduceSub, Nat.reduceLT, Nat.reduceLeDiff, Nat.reduceEqDiff, Nat.reduceBEq, Nat.reduceBNe, Int.reduceLT, Int.reduceLE, Int.reduceEq, Int.reduceNe, Int.reduceAdd, Int.reduceSub, Int.reduceNeg, Int.reduceToNat, Int.reduceMul, ↓reduceIte, Int.reduceGT, Int.reduceGE] at hl'
    refine ⟨ih.mono (by rw [length_hset]; omega) fun b hb => ?_, by omega, fun b hb hne => ?_, v', rfl, ?_⟩
    · rw [hget_hset_ne (by omega), old' b (by omega), hget_appl (by omega)]
    · rw [hget_hset_ne (by omega), old' b (by omega), hget_appl (by omega)]; exact hold b hb hne
    · rw [ints_step hj]; exact GrC.ext hg' (Ext.set (by omega))
  have hgl0 := hgl
  clear ih hw hbox
  rintro F g' ⟨f1, f2, f3, fl, fn, fi, ih, hgh, hold, w2, hw, hg⟩
  rw [List.take_length] at hg
  replace q0 : GrC g' (H.length + 3) (ints l0) 1 w0 := q0.ext fun b x hb hx => by rw [hold b (hget_lt hx) (by omega)]; exact hx
  replace q1 : GrC g' (H.length + 3) (ints l1) 1 w1 := q1.ext fun b x hb hx => by rw [hold b (hget_lt hx) (by omega)]; exact hx
  have q2 : GrC g' (H.length + 3) (ints l2) 1 w2 := hg.low (by omega)
  have u2 := hg.one
  clear hg hold hgh hgl hgl0
  rename_i g0
  clear g0
  generalize g' = g at *
  have hgl := ih.len
  have hbox := ih.box
  simp (disch := first | omega | (simp only [fsLen]; omega)) only [↓fsPre, fsPost, fsCond, fsGen, fsDefs, fsDefX, cls, eqVal, reduceCtorEq, Nat.reduceAdd, Nat.reduceMul, Nat.reduceSub, Nat.reduceLT, Nat.reduceLeDiff, Nat.reduceEqDiff, Nat.reduceBEq, Nat.reduceBNe, Int.reduceLT, Int.reduceLE, Int.reduceEq, Int.reduceNe, Int.reduceAdd, Int.reduceSub, Int.reduceNeg, Int.reduceToNat, Int.reduceMul, ↓reduceIte, Int.reduceGT, Int.reduceGE, f1, f2, f3, fl, fn, fi, hbox, h5, h7, h8, h9, u0, u1, u2]
  refine wloop (fun j F h => F 1 = .ptr (some (H.length, 0)) ∧ F 2 = .ptr (some (H.length + 1, 0)) ∧ F 3 = .ptr (some (H.length + 2, 0)) ∧ F 62 = .slice a3 l3.length c3 ∧ F 63 = .int .i64 l3.length ∧ F 64 = .int .i64 j ∧ IdxH H [.slice a0 l0.length c0, .slice a1 l1.length c1, .slice a2 l2.length c2, .slice a3 l3.length c3, .slice a4 l4.length c4, z5, .slice a5 l5.length c5, z7, z8, z9] h ∧ g.length ≤ h.length ∧ (∀ b, b < g.length → b ≠ H.length + 2 → hget h b = hget g b) ∧ ∃ v, hget h (H.length + 2) = some (.cells [w0, w1, w2, v, .slice none 0 (.fix 0), .slice none 0 (.fix 0)] false) ∧ GrC h g.length (ints (l3.take j)) 1 v) l3.length ?_ ?_ ?_
  · simp (disch := first | omega | (simp only [fsLen]; omega)) only [↓fsPre, fsPost, fsCond, fsGen, fsDefs, fsDefX, cls, eqVal, reduceCtorEq, Nat.reduceAdd, Nat.reduceMul, Nat.reduceSub, Nat.reduceLT, Nat.reduceLeDiff, Nat.reduceEqDiff, Nat.reduceBEq, Nat.reduceBNe, Int.reduceLT, Int.reduceLE, Int.reduceEq, Int.reduceNe, Int.reduceAdd, Int.reduceSub, Int.reduceNeg, Int.reduceToNat, Int.reduceMul, ↓reduceIte, Int.reduceGT, Int.reduceGE, f1, f2, f3, hw]
    exact ⟨ih, _, rfl, .nil⟩
  · rintro j F h hj ⟨f1, f2, f3, fl, fn, fi, ih, hgh, hold, v, hw, hg⟩
    have hl3 := ih.len
    have uk := hg.one
    obtain ⟨B, cs, ro, ea, hB, hr⟩ := row3 (by omega)
    obtain ⟨ys, hc, oy, ly⟩ := hr j hj
    have hBl := hget_some_lt hB
    have hB' : hget h B = some (.cells cs ro) := by rw [ih.old B hBl]; exact hB
    have ly' : ys.length = 4 := by omega
    simp (disch := first | omega | (simp only [fsLen]; omega)) only [↓fsPre, fsPost, fsCond, fsGen, fsDefs, fsDefX, cls, eqVal, reduceCtorEq, Nat.reduceAdd, Nat.reduceMul, Nat.reduceSub, Nat.reduceLT, Nat.reduceLeDiff, Nat.reduceEqDiff, Nat.reduceBEq, Nat.reduceBNe, Int.reduceLT, Int.reduceLE, Int.reduceEq, Int.reduceNe, Int.reduceAdd, Int.reduceSub, Int.reduceNeg, Int.reduceToNat, Int.reduceMul, ↓reduceIte, Int.reduceGT, Int.reduceGE, f1, f2, f3, fl, fn, fi, hw, ea, hB', hc, oy, ly', uk, u0, u1, u2]
    refine grc_app (N := g.length) (hg.ext Ext.app) (by simp only [List.length_append]; omega) (sliceCells_at (by simp (disch := first | omega | (simp only [fsLen]; omega)) only [↓fsPre, fsPost, fsCond, fsGen, fsDefs, fsDefX, cls, eqVal, reduceCtorEq, Nat.reduceAdd, Nat.reduceMul, Nat.reduceSub, Nat.reduceLT, Nat.reduceLeDiff, Nat.reduceEqDiff, Nat.reduceBEq, Nat.reduceBNe, Int.reduceLT, Int.reduceLE, Int.reduceEq, Int.reduceNe, Int.reduceAdd, Int.reduceSub, Int.reduceNeg, Int.reduceToNat, Int.reduceMul, ↓reduceIte, Int.reduceGT, Int.reduceGE] <;> rfl) rfl) rfl (by omega) (by omega) rfl (by have := ints_length (j := j) n3; omega) (by omega) (by omega) ?_
    intro v' h' hg' hl' old'
    have hw' : hget h' (H.length + 2) = some (.cells [w0, w1, w2, v, .slice none 0 (.fix 0), .slice none 0 (.fix 0)] false) := by
      rw [old' _ (by omega)]; simp (disch := first | omega | (simp only [fsLen]; omega)) only [↓fsPre, fsPost, fsCond, fsGen, fsDefs, fsDefX, cls, eqVal, reduceCtorEq, Nat.reduceAdd, Nat.reduceMul, Nat.reduceSub, Nat.reduceLT, Nat.reduceLeDiff, Nat.reduceEqDiff, Nat.reduceBEq, Nat.reduceBNe, Int.reduceLT, Int.reduceLE, Int.reduceEq, Int.reduceNe, Int.reduceAdd, Int.reduceSub, Int.reduceNeg, Int.reduceToNat, Int.reduceMul, ↓reduceIte, Int.reduceGT, Int.reduceGE, hw]
    have hwl := hget_some_lt hw'
    have wv := hg'.one
    simp (disch := first | omega | (simp only [fsLen]; omega)) only [↓fsPre, fsPost, fsCond, fsGen, fsDefs, fsDefX, cls, eqVal, reduceCtorEq, Nat.reduceAdd, Nat.reduceMul, Nat.reduceSub, Nat.reduceLT, Nat.reduceLeDiff, Nat.reduceEqDiff, Nat.reduceBEq, Nat.reduceBNe, Int.reduceLT, Int.reduceLE, Int.reduceEq, Int.reduceNe, Int.reduceAdd, Int.reduceSub, Int.reduceNeg, Int.reduceToNat, Int.reduceMul, ↓reduceIte, Int.reduceGT, Int.reduceGE, f1, f2, f3, fl, fn, fi, hw', wv, flat_one wv, cells_one wv, u0, u1, u2]
    simp (disch := first | omega | (simp only [fsLen]; omega)) only [↓fsPre, fsPost, fsCond, fsGen, fsDefs, fsDefX, cls, eqVal, reduceCtorEq, Nat.reduceAdd, Nat.reduceMul, Nat.reduceSub, Nat.reduceLT, Nat.reduceLeDiff, Nat.reduceEqDiff, Nat.reduceBEq, Nat.reduceBNe, Int.reduceLT, Int.reduceLE, Int.reduceEq, Int.reduceNe, Int.reduceAdd, Int.reduceSub, Int.reduceNeg, Int.reduceToNat, Int.reduceMul, ↓reduceIte, Int.reduceGT, Int.reduceGE] at hl'
    refine ⟨ih.mono (by rw [length_hset]; omega) fun b hb => ?_, by omega, fun b hb hne => ?_, v', rfl, ?_⟩
    · rw [hget_hset_ne (by omega), old' b (by omega), hget_appl (by omega)]
    · rw [hget_hset_ne (by omega), old' b (by omega), hget_appl (by omega)]; exact hold b hb hne
    · rw [ints_step hj]; exact GrC.ext hg' (Ext.set (by omega))
  have hgl0 := hgl
  clear ih hw hbox
  rintro F g' ⟨f1, f2, f3, fl, fn, fi, ih, hgh, hold, w3, hw, hg⟩
  rw [List.take_length] at hg
  replace q0 : GrC g' (H.length + 3) (ints l0) 1 w0 := q0.ext fun b x hb hx => by rw [hold b (hget_lt hx) (by omega)]; exact hx
  replace q1 : GrC g' (H.length + 3) (ints l1) 1 w1 := q1.ext fun b x hb hx => by rw [hold b (hget_lt hx) (by omega)]; exact hx
  replace q2 : GrC g' (H.length + 3) (ints l2) 1 w2 := q2.ext fun b x hb hx => by rw [hold b (hget_lt hx) (by omega)]; exact hx
  have q3 : GrC g' (H.length + 3) (ints l3) 1 w3 := hg.low (by omega)
  have u3 := hg.one
  clear hg hold hgh hgl hgl0
  rename_i g0
  clear g0
  generalize g' = g at *
  have hgl := ih.len
  have hbox := ih.box
  simp (disch := first | omega | (simp only [fsLen]; omega)) only [↓fsPre, fsPost, fsCond, fsGen, fsDefs, fsDefX, cls, eqVal, reduceCtorEq, Nat.reduceAdd, Nat.reduceMul, Nat.reduceSub, Nat.reduceLT, Nat.reduceLeDiff, Nat.reduceEqDiff, Nat.reduceBEq, Nat.reduceBNe, Int.reduceLT, Int.reduceLE, Int.reduceEq, Int.reduceNe, Int.reduceAdd, Int.reduceSub, Int.reduceNeg, Int.reduceToNat, Int.reduceMul, ↓reduceIte, Int.reduceGT, Int.reduceGE, f1, f2, f3, fl, fn, fi, hbox, h5, h7, h8, h9, u0, u1, u2, u3]
  refine wloop (fun j F h => F 1 = .ptr (some (H.length, 0)) ∧ F 2 = .ptr (some (H.length + 1, 0)) ∧ F 3 = .ptr (some (H.length + 2, 0)) ∧ F 77 = .slice a4 l4.length c4 ∧ F 78 = .int .i64 l4.length ∧ F 79 = .int .i64 j ∧ IdxH H [.slice a0 l0.length c0, .slice a1 l1.length c1, .slice a2 l2.length c2, .slice a3 l3.length c3, .slice a4 l4.length c4, z5, .slice a5 l5.length c5, z7, z8, z9] h ∧ g.length ≤ h.length ∧ (∀ b, b < g.length → b ≠ H.length + 2 → hget h b = hget g b) ∧ ∃ v, hget h (H.length + 2) = some (.cells [w0, w1, w2, w3, v, .slice none 0 (.fix 0)] false) ∧ GrC h g.length (ints (l4.take j)) 1 v) l4.length ?_ ?_ ?_
  · simp (disch := first | omega | (simp only [fsLen]; omega)) only [↓fsPre, fsPost, fsCond, fsGen, fsDefs, fsDefX, cls, eqVal, reduceCtorEq, Nat.reduceAdd, Nat.reduceMul, Nat.reduceSub, Nat.reduceLT, Nat.reduceLeDiff, Nat.reduceEqDiff, Nat.reduceBEq, Nat.reduceBNe, Int.reduceLT, Int.reduceLE, Int.reduceEq, Int.reduceNe, Int.reduceAdd, Int.reduceSub, Int.reduceNeg, Int.reduceToNat, Int.reduceMul, ↓reduceIte, Int.reduceGT, Int.reduceGE, f1, f2, f3, hw]
    exact ⟨ih, _, rfl, .nil⟩
  · rintro j F h hj ⟨f1, f2, f3, fl, fn, fi, ih, hgh, hold, v, hw, hg⟩
    have hl3 := ih.len
    have uk := hg.one
    obtain ⟨B, cs, ro, ea, hB, hr⟩ := row4 (by omega)
    obtain ⟨ys, hc, oy, ly⟩ := hr j hj
    have hBl := hget_some_lt hB
    have hB' : hget h B = some (.cells cs ro) := by rw [ih.old B hBl]; exact hB
    have ly' : ys.length = 7 := by omega
    simp (disch := first | omega | (simp only [fsLen]; omega)) only [↓fsPre, fsPost, fsCond, fsGen, fsDefs, fsDefX, cls, eqVal, reduceCtorEq, Nat.reduceAdd, Nat.reduceMul, Nat.reduceSub, Nat.reduceLT, Nat.reduceLeDiff, Nat.reduceEqDiff, Nat.reduceBEq, Nat.reduceBNe, Int.reduceLT, Int.reduceLE, Int.reduceEq, Int.reduceNe, Int.reduceAdd, Int.reduceSub, Int.reduceNeg, Int.reduceToNat, Int.reduceMul, ↓reduceIte, Int.reduceGT, Int.reduceGE, f1, f2, f3, fl, fn, fi, hw, ea, hB', hc, oy, ly', uk, u0, u1, u2, u3]
    refine grc_app (N := g.length) (hg.ext Ext.app) (by simp only [List.length_append]; omega) (sliceCells_at (by simp (disch := first | omega | (simp only [fsLen]; omega)) only [↓fsPre, fsPost, fsCond, fsGen, fsDefs, fsDefX, cls, eqVal, reduceCtorEq, Nat.reduceAdd, Nat.reduceMul, Nat.reduceSub, Nat.reduceLT, Nat.reduceLeDiff, Nat.reduceEqDiff, Nat.reduceBEq, Nat.reduceBNe, Int.reduceLT, Int.reduceLE, Int.reduceEq, Int.reduceNe, Int.reduceAdd, Int.reduceSub, Int.reduceNeg, Int.reduceToNat, Int.reduceMul, ↓reduceIte, Int.reduceGT, Int.reduceGE] <;> rfl) rfl) rfl (by omega) (by omega) rfl (by have := ints_length (j := j) n4; omega) (by omega) (by omega) ?_
    intro v' h' hg' hl' old'
    have hw' : hget h' (H.length + 2) = some (.cells [w0, w1, w2, w3, v, .slice none 0 (.fix 0)] false) := by
      rw [old' _ (by omega)]; simp (disch := first | omega | (simp only [fsLen]; omega)) only [↓fsPre, fsPost, fsCond, fsGen, fsDefs, fsDefX, cls, eqVal, reduceCtorEq, Nat.reduceAdd, Nat.reduceMul, Nat.reduceSub, Nat.reduceLT, Nat.reduceLeDiff, Nat.reduceEqDiff, Nat.reduceBEq, Nat.reduceBNe, Int.reduceLT, Int.reduceLE, Int.reduceEq, Int.reduceNe, Int.reduceAdd, Int.reduceSub, Int.reduceNeg, Int.reduceToNat, Int.reduceMul, ↓reduceIte, Int.reduceGT, Int.reduceGE, hw]
    have hwl := hget_some_lt hw'
    have wv := hg'.one
    simp (disch := first | omega | (simp only [fsLen]; omega)) only [↓fsPre, fsPost, fsCond, fsGen, fsDefs, fsDefX, cls, eqVal, reduceCtorEq, Nat.reduceAdd, Nat.reduceMul, Nat.reduceSub, Nat.reduceLT, Nat.reduceLeDiff, Nat.reduceEqDiff, Nat.reduceBEq, Nat.reduceBNe, Int.reduceLT, Int.reduceLE, Int.reduceEq, Int.reduceNe, Int.reduceAdd, Int.reduceSub, Int.reduceNeg, Int.reduceToNat, Int.reduceMul, ↓reduceIte, Int.reduceGT, Int.reduceGE, f1, f2, f3, fl, fn, fi, hw', wv, flat_one wv, cells_one wv, u0, u1, u2, u3]
    simp (disch := first | omega | (simp only [fsLen]; omega)) only [↓fsPre, fsPost, fsCond, fsGen, fsDefs, fsDefX, cls, eqVal, reduceCtorEq, Nat.reduceAdd, Nat.reduceMul, Nat.reduceSub, Nat.reduceLT, Nat.reduceLeDiff, Nat.reduceEqDiff, Nat.reduceBEq, Nat.reduceBNe, Int.reduceLT, Int.reduceLE, Int.reduceEq, Int.reduceNe, Int.reduceAdd, Int.reduceSub, Int.reduceNeg, Int.reduceToNat, Int.reduceMul, ↓reduceIte, Int.reduceGT, Int.reduceGE] at hl'
    refine ⟨ih.mono (by rw [length_hset]; omega) fun b hb => ?_, by omega, fun b hb hne => ?_, v', rfl, ?_⟩
    · rw [hget_hset_ne (by omega), old' b (by omega), hget_appl (by omega)]
    · rw [hget_hset_ne (by omega), old' b (by omega), hget_appl (by omega)]; exact hold b hb hne
    · rw [ints_step hj]; exact GrC.ext hg' (Ext.set (by omega))
  have hgl0 := hgl
  clear ih hw hbox
  rintro F g' ⟨f1, f2, f3, fl, fn, fi, ih, hgh, hold, w4, hw, hg⟩
  rw [List.take_length] at hg
  replace q0 : GrC g' (H.length + 3) (ints l0) 1 w0 := q0.ext fun b x hb hx => by rw [hold b (hget_lt hx) (by omega)]; exact hx
  replace q1 : GrC g' (H.length + 3) (ints l1) 1 w1 := q1.ext fun b x hb hx => by rw [hold b (hget_lt hx) (by omega)]; exact hx
  replace q2 : GrC g' (H.length + 3) (ints l2) 1 w2 := q2.ext fun b x hb hx => by rw [hold b (hget_lt hx) (by omega)]; exact hx
  replace q3 : GrC g' (H.length + 3) (ints l3) 1 w3 := q3.ext fun b x hb hx => by rw [hold b (hget_lt hx) (by omega)]; exact hx
  have q4 : GrC g' (H.length + 3) (ints l4) 1 w4 := hg.low (by omega)
  have u4 := hg.one
  clear hg hold hgh hgl hgl0
  rename_i g0
  clear g0
  generalize g' = g at *
  have hgl := ih.len
  have hbox := ih.box
  simp (disch := first | omega | (simp only [fsLen]; omega)) only [↓fsPre, fsPost, fsCond, fsGen, fsDefs, fsDefX, cls, eqVal, reduceCtorEq, Nat.reduceAdd, Nat.reduceMul, Nat.reduceSub, Nat.reduceLT, Nat.reduceLeDiff, Nat.reduceEqDiff, Nat.reduceBEq, Nat.reduceBNe, Int.reduceLT, Int.reduceLE, Int.reduceEq, Int.reduceNe, Int.reduceAdd, Int.reduceSub, Int.reduceNeg, Int.reduceToNat, Int.reduceMul, ↓reduceIte, Int.reduceGT, Int.reduceGE, f1, f2, f3, fl, fn, fi, hbox, h5, h7, h8, h9, u0, u1, u2, u3, u4]
  refine wloop (fun j F h => F 1 = .ptr (some (H.length, 0)) ∧ F 2 = .ptr (some (H.length + 1, 0)) ∧ F 3 = .ptr (some (H.length + 2, 0)) ∧ F 92 = .slice a5 l5.length c5 ∧ F 93 = .int .i64 l5.length ∧ F 94 = .int .i64 j ∧ IdxH H [.slice a0 l0.length c0, .slice a1 l1.length c1, .slice a2 l2.length c2, .slice a3 l3.length c3, .slice a4 l4.length c4, z5, .slice a5 l5.length c5, z7, z8, z9] h ∧ g.length ≤ h.length ∧ (∀ b, b < g.length → b ≠ H.length + 2 → hget h b = hget g b) ∧ ∃ v, hget h (H.length + 2) = some (.cells [w0, w1, w2, w3, w4, v] false) ∧ GrC h g.length (ints (l5.take j)) 1 v) l5.length ?_ ?_ ?_
  · simp (disch := first | omega | (simp only [fsLen]; omega)) only [↓fsPre, fsPost, fsCond, fsGen, fsDefs, fsDefX, cls, eqVal, reduceCtorEq, Nat.reduceAdd, Nat.reduceMul, Nat.reduceSub, Nat.reduceLT, Nat.reduceLeDiff, Nat.reduceEqDiff, Nat.reduceBEq, Nat.reduceBNe, Int.reduceLT, Int.reduceLE, Int.reduceEq, Int.reduceNe, Int.reduceAdd, Int.reduceSub, Int.reduceNeg, Int.reduceToNat, Int.reduceMul, ↓reduceIte, Int.reduceGT, Int.reduceGE, f1, f2, f3, hw]
    exact ⟨ih, _, rfl, .nil⟩
  · rintro j F h hj ⟨f1, f2, f3, fl, fn, fi, ih, hgh, hold, v, hw, hg⟩
    have hl3 := ih.len
    have uk := hg.one
    obtain ⟨B, cs, ro, ea, hB, hr⟩ := row5 (by omega)
    obtain ⟨ys, hc, oy, ly⟩ := hr j hj
    have hBl := hget_some_lt hB
    have hB' : hget h B = some (.cells cs ro) := by rw [ih.old B hBl]; exact hB
    have ly' : ys.length = 5 := by omega
    simp (disch := first | omega | (simp only [fsLen]; omega)) only [↓fsPre, fsPost, fsCond, fsGen, fsDefs, fsDefX, cls, eqVal, reduceCtorEq, Nat.reduceAdd, Nat.reduceMul, Nat.reduceSub, Nat.reduceLT, Nat.reduceLeDiff, Nat.reduceEqDiff, Nat.reduceBEq, Nat.reduceBNe, Int.reduceLT, Int.reduceLE, Int.reduceEq, Int.reduceNe, Int.reduceAdd, Int.reduceSub, Int.reduceNeg, Int.reduceToNat, Int.reduceMul, ↓reduceIte, Int.reduceGT, Int.reduceGE, f1, f2, f3, fl, fn, fi, hw, ea, hB', hc, oy, ly', uk, u0, u1, u2, u3, u4]
    refine grc_app (N := g.length) (hg.ext Ext.app) (by simp only [List.length_append]; omega) (sliceCells_at (by simp (disch := first | omega | (simp only [fsLen]; omega)) only [↓fsPre, fsPost, fsCond, fsGen, fsDefs, fsDefX, cls, eqVal, reduceCtorEq, Nat.reduceAdd, Nat.reduceMul, Nat.reduceSub, Nat.reduceLT, Nat.reduceLeDiff, Nat.reduceEqDiff, Nat.reduceBEq, Nat.reduceBNe, Int.reduceLT, Int.reduceLE, Int.reduceEq, Int.reduceNe, Int.reduceAdd, Int.reduceSub, Int.reduceNeg, Int.reduceToNat, Int.reduceMul, ↓reduceIte, Int.reduceGT, Int.reduceGE] <;> rfl) rfl) rfl (by omega) (by omega) rfl (by have := ints_length (j := j) n5; omega) (by omega) (by omega) ?_
    intro v' h' hg' hl' old'
    have hw' : hget h' (H.length + 2) = some (.cells [w0, w1, w2, w3, w4, v] false) := by
      rw [old' _ (by omega)]; simp (disch := first | omega | (simp only [fsLen]; omega)) only [↓fsPre, fsPost, fsCond, fsGen, fsDefs, fsDefX, cls, eqVal, reduceCtorEq, Nat.reduceAdd, Nat.reduceMul, Nat.reduceSub, Nat.reduceLT, Nat.reduceLeDiff, Nat.reduceEqDiff, Nat.reduceBEq, Nat.reduceBNe, Int.reduceLT, Int.reduceLE, Int.reduceEq, Int.reduceNe, Int.reduceAdd, Int.reduceSub, Int.reduceNeg, Int.reduceToNat, Int.reduceMul, ↓reduceIte, Int.reduceGT, Int.reduceGE, hw]
    have hwl := hget_some_lt hw'
    have wv := hg'.one
    simp (disch := first | omega | (simp only [fsLen]; omega)) only [↓fsPre, fsPost, fsCond, fsGen, fsDefs, fsDefX, cls, eqVal, reduceCtorEq, Nat.reduceAdd, Nat.reduceMul, Nat.reduceSub, Nat.reduceLT, Nat.reduceLeDiff, Nat.reduceEqDiff, Nat.reduceBEq, Nat.reduceBNe, Int.reduceLT, Int.reduceLE, Int.reduceEq, Int.reduceNe, Int.reduceAdd, Int.reduceSub, Int.reduceNeg, Int.reduceToNat, Int.reduceMul, ↓reduceIte, Int.reduceGT, Int.reduceGE, f1, f2, f3, fl, fn, fi, hw', wv, flat_one wv, cells_one wv, u0, u1, u2, u3, u4]
    simp (disch := first | omega | (simp only [fsLen]; omega)) only [↓fsPre, fsPost, fsCond, fsGen, fsDefs, fsDefX, cls, eqVal, reduceCtorEq, Nat.reduceAdd, Nat.reduceMul, Nat.reduceSub, Nat.reduceLT, Nat.reduceLeDiff, Nat.reduceEqDiff, Nat.reduceBEq, Nat.reduceBNe, Int.reduceLT, Int.reduceLE, Int.reduceEq, Int.reduceNe, Int.reduceAdd, Int.reduceSub, Int.reduceNeg, Int.reduceToNat, Int.reduceMul, ↓reduceIte, Int.reduceGT, Int.reduceGE] at hl'
    refine ⟨ih.mono (by rw [length_hset]; omega) fun b hb => ?_, by omega, fun b hb hne => ?_, v', rfl, ?_⟩
    · rw [hget_hset_ne (by omega), old' b (by omega), hget_appl (by omega)]
    · rw [hget_hset_ne (by omega), old' b (by omega), hget_appl (by omega)]; exact hold b hb hne
    · rw [ints_step hj]; exact GrC.ext hg' (Ext.set (by omega))
  have hgl0 := hgl
  clear ih hw hbox
  rintro F g' ⟨f1, f2, f3, fl, fn, fi, ih, hgh, hold, w5, hw, hg⟩
  rw [List.take_length] at hg
  replace q0 : GrC g' (H.length + 3) (ints l0) 1 w0 := q0.ext fun b x hb hx => by rw [hold b (hget_lt hx) (by omega)]; exact hx
  replace q1 : GrC g' (H.length + 3) (ints l1) 1 w1 := q1.ext fun b x hb hx => by rw [hold b (hget_lt hx) (by omega)]; exact hx
  replace q2 : GrC g' (H.length + 3) (ints l2) 1 w2 := q2.ext fun b x hb hx => by rw [hold b (hget_lt hx) (by omega)]; exact hx
  replace q3 : GrC g' (H.length + 3) (ints l3) 1 w3 := q3.ext fun b x hb hx => by rw [hold b (hget_lt hx) (by omega)]; exact hx
  replace q4 : GrC g' (H.length + 3) (ints l4) 1 w4 := q4.ext fun b x hb hx => by rw [hold b (hget_lt hx) (by omega)]; exact hx
  have q5 : GrC g' (H.length + 3) (ints l5) 1 w5 := hg.low (by omega)
  have u5 := hg.one
  clear hg hold hgh hgl hgl0
  rename_i g0
  clear g0
  generalize g' = g at *
  have hgl := ih.len
  have hbox := ih.box
  have hres := ih.res
  simp (disch := first | omega | (simp only [fsLen]; omega)) only [↓fsPre, fsPost, fsCond, fsGen, fsDefs, fsDefX, cls, eqVal, reduceCtorEq, Nat.reduceAdd, Nat.reduceMul, Nat.reduceSub, Nat.reduceLT, Nat.reduceLeDiff, Nat.reduceEqDiff, Nat.reduceBEq, Nat.reduceBNe, Int.reduceLT, Int.reduceLE, Int.reduceEq, Int.reduceNe, Int.reduceAdd, Int.reduceSub, Int.reduceNeg, Int.reduceToNat, Int.reduceMul, ↓reduceIte, Int.reduceGT, Int.reduceGE, f1, f2, f3, fl, fn, fi, hw, hres, u0, u1, u2, u3, u4, u5]
  refine ⟨w0, w1, w2, w3, w4, w5, rfl, by rw [length_hset]; omega, fun b hb => by rw [hget_hset_ne (by omega)]; exact ih.old b hb, ?_, ?_, ?_, ?_, ?_, ?_⟩
  · exact (q0.ext (Ext.set (by omega))).low (by omega)
  · exact (q1.ext (Ext.set (by omega))).low (by omega)
  · exact (q2.ext (Ext.set (by omega))).low (by omega)
  · exact (q3.ext (Ext.set (by omega))).low (by omega)
  · exact (q4.ext (Ext.set (by omega))).low (by omega)
  · exact (q5.ext (Ext.set (by omega))).low (by omega)
end Go.Proofs
