/- Idx2, Idx3 in one text. -/
import Derived.Test.YtghjfohjkgllbaaEPIdx
import Derived.Test.YtghjfohjkgllbaaEPExP
import Derived.Test.YtghjfohjkgllbaaEPEx11
set_option linter.unusedSimpArgs false
set_option linter.unusedVariables false
set_option maxRecDepth 10000
namespace Go.Proofs
open Go.Ns

theorem ints_get {l : List Int} {j : Nat} (hj : j < l.length) : (ints l)[j]? = some (.int .i64 l[j]) := by
  unfold ints; rw [List.getElem?_map, List.getElem?_eq_getElem hj]; rfl
theorem idx_ok (H : Heap) (N : Nat) (v : NV) (l : List Int) (id : Int) (g : GrC H N (ints l) 1 v) (hl : l.length ≤ 100) : NCall Try.prog 47 [v, .int .i64 id] H fun r => r = (.int .i64 (ixI l id), H) := by
  refine call_of E0 mixed t47_ok (by kernel_rfl) (by rintro q rfl; simp) ?_
  simp only [t47]
  rcases g with ⟨e, rfl⟩ | ⟨b, k, rfl, hN, hb, hk, hk0⟩
  · have hl0 : l = [] := by unfold ints at e; simpa using e
    subst hl0
    simp (disch := first | omega | (simp only [fsLen]; omega)) only [↓fsPre, fsPost, fsCond, fsGen, fsDefs, fsDefX, cls, eqVal, reduceCtorEq, Nat.reduceAdd, Nat.reduceMul, Nat.reduceSub, Nat.reduceLT, Nat.reduceLeDiff, Nat.reduceEqDiff, Nat.reduceBEq, Nat.reduceBNe, Int.reduceLT, Int.reduceLE, Int.reduceEq, Int.reduceNe, Int.reduceAdd, Int.reduceSub, Int.reduceNeg, Int.reduceToNat, Int.reduceMul, ↓reduceIte, Int.reduceGT, Int.reduceGE]
    refine wloop (fun j F h => h = H ∧ F 8 = .int .i64 0 ∧ F 9 = .int .i64 0) 0 ?_ ?_ ?_
    · simp (disch := first | omega | (simp only [fsLen]; omega)) only [↓fsPre, fsPost, fsCond, fsGen, fsDefs, fsDefX, cls, eqVal, reduceCtorEq, Nat.reduceAdd, Nat.reduceMul, Nat.reduceSub, Nat.reduceLT, Nat.reduceLeDiff, Nat.reduceEqDiff, Nat.reduceBEq, Nat.reduceBNe, Int.reduceLT, Int.reduceLE, Int.reduceEq, Int.reduceNe, Int.reduceAdd, Int.reduceSub, Int.reduceNeg, Int.reduceToNat, Int.reduceMul, ↓reduceIte, Int.reduceGT, Int.reduceGE]
    · intro j F h hj; exact absurd hj (Nat.not_lt_zero _)
    · rintro F h ⟨rfl, f8, f9⟩
      simp (disch := first | omega | (simp only [fsLen]; omega)) only [↓fsPre, fsPost, fsCond, fsGen, fsDefs, fsDefX, cls, eqVal, reduceCtorEq, Nat.reduceAdd, Nat.reduceMul, Nat.reduceSub, Nat.reduceLT, Nat.reduceLeDiff, Nat.reduceEqDiff, Nat.reduceBEq, Nat.reduceBNe, Int.reduceLT, Int.reduceLE, Int.reduceEq, Int.reduceNe, Int.reduceAdd, Int.reduceSub, Int.reduceNeg, Int.reduceToNat, Int.reduceMul, ↓reduceIte, Int.reduceGT, Int.reduceGE, f8, f9]
      rfl
  · have hk2 : k = l.length := by unfold ints at hk; rw [List.length_map, Nat.mul_one] at hk; exact hk.symm
    subst hk2
    simp (disch := first | omega | (simp only [fsLen]; omega)) only [↓fsPre, fsPost, fsCond, fsGen, fsDefs, fsDefX, cls, eqVal, reduceCtorEq, Nat.reduceAdd, Nat.reduceMul, Nat.reduceSub, Nat.reduceLT, Nat.reduceLeDiff, Nat.reduceEqDiff, Nat.reduceBEq, Nat.reduceBNe, Int.reduceLT, Int.reduceLE, Int.reduceEq, Int.reduceNe, Int.reduceAdd, Int.reduceSub, Int.reduceNeg, Int.reduceToNat, Int.reduceMul, ↓reduceIte, Int.reduceGT, Int.reduceGE]
    refine wloop (fun j F h => h = H ∧ F 1 = .int .i64 id ∧ F 7 = .slice (some (b, 0)) l.length (.opn 1) ∧ F 8 = .int .i64 l.length ∧ F 9 = .int .i64 j ∧ ∀ i (hi : i < l.length), i < j → l[i] ≠ id) l.length ?_ ?_ ?_
    · simp (disch := first | omega | (simp only [fsLen]; omega)) only [↓fsPre, fsPost, fsCond, fsGen, fsDefs, fsDefX, cls, eqVal, reduceCtorEq, Nat.reduceAdd, Nat.reduceMul, Nat.reduceSub, Nat.reduceLT, Nat.reduceLeDiff, Nat.reduceEqDiff, Nat.reduceBEq, Nat.reduceBNe, Int.reduceLT, Int.reduceLE, Int.reduceEq, Int.reduceNe, Int.reduceAdd, Int.reduceSub, Int.reduceNeg, Int.reduceToNat, Int.reduceMul, ↓reduceIte, Int.reduceGT, Int.reduceGE]
      exact fun i _ h => absurd h (Nat.not_lt_zero i)
    · rintro j F h hj ⟨rfl, f1, f7, f8, f9, hn⟩
      have hgj := ints_get hj
      simp (disch := first | omega | (simp only [fsLen]; omega)) only [↓fsPre, fsPost, fsCond, fsGen, fsDefs, fsDefX, cls, eqVal, reduceCtorEq, Nat.reduceAdd, Nat.reduceMul, Nat.reduceSub, Nat.reduceLT, Nat.reduceLeDiff, Nat.reduceEqDiff, Nat.reduceBEq, Nat.reduceBNe, Int.reduceLT, Int.reduceLE, Int.reduceEq, Int.reduceNe, Int.reduceAdd, Int.reduceSub, Int.reduceNeg, Int.reduceToNat, Int.reduceMul, ↓reduceIte, Int.reduceGT, Int.reduceGE, f1, f7, f8, f9, hb, hgj]
      refine condK_dec (fun he => ?_) (fun he => ?_)
      · simp (disch := first | omega | (simp only [fsLen]; omega)) only [↓fsPre, fsPost, fsCond, fsGen, fsDefs, fsDefX, cls, eqVal, reduceCtorEq, Nat.reduceAdd, Nat.reduceMul, Nat.reduceSub, Nat.reduceLT, Nat.reduceLeDiff, Nat.reduceEqDiff, Nat.reduceBEq, Nat.reduceBNe, Int.reduceLT, Int.reduceLE, Int.reduceEq, Int.reduceNe, Int.reduceAdd, Int.reduceSub, Int.reduceNeg, Int.reduceToNat, Int.reduceMul, ↓reduceIte, Int.reduceGT, Int.reduceGE, f1, f7, f8, f9]
        rw [ixI_hit hj hn he]
      · simp (disch := first | omega | (simp only [fsLen]; omega)) only [↓fsPre, fsPost, fsCond, fsGen, fsDefs, fsDefX, cls, eqVal, reduceCtorEq, Nat.reduceAdd, Nat.reduceMul, Nat.reduceSub, Nat.reduceLT, Nat.reduceLeDiff, Nat.reduceEqDiff, Nat.reduceBEq, Nat.reduceBNe, Int.reduceLT, Int.reduceLE, Int.reduceEq, Int.reduceNe, Int.reduceAdd, Int.reduceSub, Int.reduceNeg, Int.reduceToNat, Int.reduceMul, ↓reduceIte, Int.reduceGT, Int.reduceGE, f1, f7, f8, f9]
        intro i hi h2
        by_cases h3 : i = j
        · subst h3; exact he
        · exact hn i hi (by omega)
    · rintro F h ⟨rfl, f1, f7, f8, f9, hn⟩
      simp (disch := first | omega | (simp only [fsLen]; omega)) only [↓fsPre, fsPost, fsCond, fsGen, fsDefs, fsDefX, cls, eqVal, reduceCtorEq, Nat.reduceAdd, Nat.reduceMul, Nat.reduceSub, Nat.reduceLT, Nat.reduceLeDiff, Nat.reduceEqDiff, Nat.reduceBEq, Nat.reduceBNe, Int.reduceLT, Int.reduceLE, Int.reduceEq, Int.reduceNe, Int.reduceAdd, Int.reduceSub, Int.reduceNeg, Int.reduceToNat, Int.reduceMul, ↓reduceIte, Int.reduceGT, Int.reduceGE, f1, f7, f8, f9]
      rw [ixI_miss fun i hi => hn i hi hi]
theorem heap_grow2 {H L : Heap} (hl : H.length ≤ L.length) (o : ∀ b, b < H.length → hget L b = hget H b) : ∃ J, L = H ++ J := by
  refine ⟨L.drop H.length, ?_⟩
  apply List.ext_getElem (by simp; omega)
  intro i h1 h2
  by_cases hi : i < H.length
  · have := o i hi
    rw [List.getElem_append_left hi]
    simpa [hget, hi, h1] using this
  · rw [List.getElem_append_right (by omega)]
    simp only [List.getElem_drop]
    congr 1; omega

theorem rFieldOf_ok (H : Heap) (l0 l1 l2 l3 l4 l5 : List Int) (z0 z1 z2 z3 z4 z5 z6 z7 z8 z9 : NV) (r0 : IdRows H 3 z0 l0) (r1 : IdRows H 3 z1 l1) (r2 : IdRows H 5 z2 l2) (r3 : IdRows H 5 z3 l3) (r4 : IdRows H 8 z4 l4) (r5 : IdRows H 6 z6 l5) (ho : z5.one = true ∧ z7.one = true ∧ z8.one = true ∧ z9.one = true) (id : Int) :
    NCall Try.prog 23 [.agg [z0, z1, z2, z3, z4, z5, z6, z7, z8, z9], .int .i64 id] H fun r => r = (.int .i64 (ixI l0 id), H) := by
  have o0 := r0.one
  have o1 := r1.one
  have o2 := r2.one
  have o3 := r3.one
  have o4 := r4.one
  have o6 := r5.one
  have old : ∀ (L : Heap) b, b < H.length → hget (H ++ L) b = hget H b := fun L b hb => hget_appl hb
  have hn : l0.length ≤ 20 := by obtain ⟨_, _, _, h, _⟩ := r0; exact h
  refine call_pure E0 mixed t23_ok (by kernel_rfl) trivial ?_
  simp only [t23]
  simp (disch := first | omega | (simp only [fsLen]; omega)) only [↓fsPre, fsPost, fsCond, fsGen, fsDefs, fsDefX, cls, eqVal, reduceCtorEq, Nat.reduceAdd, Nat.reduceMul, Nat.reduceSub, Nat.reduceLT, Nat.reduceLeDiff, Nat.reduceEqDiff, Nat.reduceBEq, Nat.reduceBNe, Int.reduceLT, Int.reduceLE, Int.reduceEq, Int.reduceNe, Int.reduceAdd, Int.reduceSub, Int.reduceNeg, Int.reduceToNat, Int.reduceMul, ↓reduceIte, Int.reduceGT, Int.reduceGE, o0, o1, o2, o3, o4, o6, ho.1, ho.2.1, ho.2.2.1, ho.2.2.2]
  refine callT_D (idx_ids _ l0 l1 l2 l3 l4 l5 _ _ _ _ _ _ _ _ _ _ (r0.mono (old _)) (r1.mono (old _)) (r2.mono (old _)) (r3.mono (old _)) (r4.mono (old _)) (r5.mono (old _)) ho) rfl ?_
  rintro v h' ⟨w0, w1, w2, w3, w4, w5, e, hl, ho', q0, q1, q2, q3, q4, q5⟩
  simp only at e hl ho' q0 q1 q2 q3 q4 q5
  subst e
  have u0 := q0.one
  have u1 := q1.one
  have u2 := q2.one
  have u3 := q3.one
  have u4 := q4.one
  have u5 := q5.one
  simp (disch := first | omega | (simp only [fsLen]; omega)) only [↓fsPre, fsPost, fsCond, fsGen, fsDefs, fsDefX, cls, eqVal, reduceCtorEq, Nat.reduceAdd, Nat.reduceMul, Nat.reduceSub, Nat.reduceLT, Nat.reduceLeDiff, Nat.reduceEqDiff, Nat.reduceBEq, Nat.reduceBNe, Int.reduceLT, Int.reduceLE, Int.reduceEq, Int.reduceNe, Int.reduceAdd, Int.reduceSub, Int.reduceNeg, Int.reduceToNat, Int.reduceMul, ↓reduceIte, Int.reduceGT, Int.reduceGE, u0, u1, u2, u3, u4, u5]
  refine callT_one (idx_ok _ _ _ l0 id q0 (by omega)) rfl ?_
  simp (disch := first | omega | (simp only [fsLen]; omega)) only [↓fsPre, fsPost, fsCond, fsGen, fsDefs, fsDefX, cls, eqVal, reduceCtorEq, Nat.reduceAdd, Nat.reduceMul, Nat.reduceSub, Nat.reduceLT, Nat.reduceLeDiff, Nat.reduceEqDiff, Nat.reduceBEq, Nat.reduceBNe, Int.reduceLT, Int.reduceLE, Int.reduceEq, Int.reduceNe, Int.reduceAdd, Int.reduceSub, Int.reduceNeg, Int.reduceToNat, Int.reduceMul, ↓reduceIte, Int.reduceGT, Int.reduceGE]
  simp only [List.length_append, List.length_cons, List.length_nil] at hl ho'
  exact heap_grow2 (by omega) fun b hb => by rw [ho' b (by omega), hget_appl hb]

theorem rHeaderOf_ok (H : Heap) (l0 l1 l2 l3 l4 l5 : List Int) (z0 z1 z2 z3 z4 z5 z6 z7 z8 z9 : NV) (r0 : IdRows H 3 z0 l0) (r1 : IdRows H 3 z1 l1) (r2 : IdRows H 5 z2 l2) (r3 : IdRows H 5 z3 l3) (r4 : IdRows H 8 z4 l4) (r5 : IdRows H 6 z6 l5) (ho : z5.one = true ∧ z7.one = true ∧ z8.one = true ∧ z9.one = true) (id : Int) :
    NCall Try.prog 40 [.agg [z0, z1, z2, z3, z4, z5, z6, z7, z8, z9], .int .i64 id] H fun r => r = (.int .i64 (ixI l1 id), H) := by
  have o0 := r0.one
  have o1 := r1.one
  have o2 := r2.one
  have o3 := r3.one
  have o4 := r4.one
  have o6 := r5.one
  have old : ∀ (L : Heap) b, b < H.length → hget (H ++ L) b = hget H b := fun L b hb => hget_appl hb
  have hn : l1.length ≤ 20 := by obtain ⟨_, _, _, h, _⟩ := r1; exact h
  refine call_pure E0 mixed t40_ok (by kernel_rfl) trivial ?_
  simp only [t40]
  simp (disch := first | omega | (simp only [fsLen]; omega)) only [↓fsPre, fsPost, fsCond, fsGen, fsDefs, fsDefX, cls, eqVal, reduceCtorEq, Nat.reduceAdd, Nat.reduceMul, Nat.reduceSub, Nat.reduceLT, Nat.reduceLeDiff, Nat.reduceEqDiff, Nat.reduceBEq, Nat.reduceBNe, Int.reduceLT, Int.reduceLE, Int.reduceEq, Int.reduceNe, Int.reduceAdd, Int.reduceSub, Int.reduceNeg, Int.reduceToNat, Int.reduceMul, ↓reduceIte, Int.reduceGT, Int.reduceGE, o0, o1, o2, o3, o4, o6, ho.1, ho.2.1, ho.2.2.1, ho.2.2.2]
  refine callT_D (idx_ids _ l0 l1 l2 l3 l4 l5 _ _ _ _ _ _ _ _ _ _ (r0.mono (old _)) (r1.mono (old _)) (r2.mono (old _)) (r3.mono (old _)) (r4.mono (old _)) (r5.mono (old _)) ho) rfl ?_
  rintro v h' ⟨w0, w1, w2, w3, w4, w5, e, hl, ho', q0, q1, q2, q3, q4, q5⟩
  simp only at e hl ho' q0 q1 q2 q3 q4 q5
  subst e
  have u0 := q0.one
  have u1 := q1.one
  have u2 := q2.one
  have u3 := q3.one
  have u4 := q4.one
  have u5 := q5.one
  simp (disch := first | omega | (simp only [fsLen]; omega)) only [↓fsPre, fsPost, fsCond, fsGen, fsDefs, fsDefX, cls, eqVal, reduceCtorEq, Nat.reduceAdd, Nat.reduceMul, Nat.reduceSub, Nat.reduceLT, Nat.reduceLeDiff, Nat.reduceEqDiff, Nat.reduceBEq, Nat.reduceBNe, Int.reduceLT, Int.reduceLE, Int.reduceEq, Int.reduceNe, Int.reduceAdd, Int.reduceSub, Int.reduceNeg, Int.reduceToNat, Int.reduceMul, ↓reduceIte, Int.reduceGT, Int.reduceGE, u0, u1, u2, u3, u4, u5]
  refine callT_one (idx_ok _ _ _ l1 id q1 (by omega)) rfl ?_
  simp (disch := first | omega | (simp only [fsLen]; omega)) only [↓fsPre, fsPost, fsCond, fsGen, fsDefs, fsDefX, cls, eqVal, reduceCtorEq, Nat.reduceAdd, Nat.reduceMul, Nat.reduceSub, Nat.reduceLT, Nat.reduceLeDiff, Nat.reduceEqDiff, Nat.reduceBEq, Nat.reduceBNe, Int.reduceLT, Int.reduceLE, Int.reduceEq, Int.reduceNe, Int.reduceAdd, Int.reduceSub, Int.reduceNeg, Int.reduceToNat, Int.reduceMul, ↓reduceIte, Int.reduceGT, Int.reduceGE]
  simp only [List.length_append, List.length_cons, List.length_nil] at hl ho'
  exact heap_grow2 (by omega) fun b hb => by rw [ho' b (by omega), hget_appl hb]

theorem rStateOf_ok (H : Heap) (l0 l1 l2 l3 l4 l5 : List Int) (z0 z1 z2 z3 z4 z5 z6 z7 z8 z9 : NV) (r0 : IdRows H 3 z0 l0) (r1 : IdRows H 3 z1 l1) (r2 : IdRows H 5 z2 l2) (r3 : IdRows H 5 z3 l3) (r4 : IdRows H 8 z4 l4) (r5 : IdRows H 6 z6 l5) (ho : z5.one = true ∧ z7.one = true ∧ z8.one = true ∧ z9.one = true) (id : Int) :
    NCall Try.prog 42 [.agg [z0, z1, z2, z3, z4, z5, z6, z7, z8, z9], .int .i64 id] H fun r => r = (.int .i64 (ixI l2 id), H) := by
  have o0 := r0.one
  have o1 := r1.one
  have o2 := r2.one
  have o3 := r3.one
  have o4 := r4.one
  have o6 := r5.one
  have old : ∀ (L : Heap) b, b < H.length → hget (H ++ L) b = hget H b := fun L b hb => hget_appl hb
  have hn : l2.length ≤ 20 := by obtain ⟨_, _, _, h, _⟩ := r2; exact h
  refine call_pure E0 mixed t42_ok (by kernel_rfl) trivial ?_
  simp only [t42]
  simp (disch := first | omega | (simp only [fsLen]; omega)) only [↓fsPre, fsPost, fsCond, fsGen, fsDefs, fsDefX, cls, eqVal, reduceCtorEq, Nat.reduceAdd, Nat.reduceMul, Nat.reduceSub, Nat.reduceLT, Nat.reduceLeDiff, Nat.reduceEqDiff, Nat.reduceBEq, Nat.reduceBNe, Int.reduceLT, Int.reduceLE, Int.reduceEq, Int.reduceNe, Int.reduceAdd, Int.reduceSub, Int.reduceNeg, Int.reduceToNat, Int.reduceMul, ↓reduceIte, Int.reduceGT, Int.reduceGE, o0, o1, o2, o3, o4, o6, ho.1, ho.2.1, ho.2.2.1, ho.2.2.2]
  refine callT_D (idx_ids _ l0 l1 l2 l3 l4 l5 _ _ _ _ _ _ _ _ _ _ (r0.mono (old _)) (r1.mono (old _)) (r2.mono (old _)) (r3.mono (old _)) (r4.mono (old _)) (r5.mono (old _)) ho) rfl ?_
  rintro v h' ⟨w0, w1, w2, w3, w4, w5, e, hl, ho', q0, q1, q2, q3, q4, q5⟩
  simp only at e hl ho' q0 q1 q2 q3 q4 q5
  subst e
  have u0 := q0.one
  have u1 := q1.one
  have u2 := q2.one
  have u3 := q3.one
  have u4 := q4.one
  have u5 := q5.one
  simp (disch := first | omega | (simp only [fsLen]; omega)) only [↓fsPre, fsPost, fsCond, fsGen, fsDefs, fsDefX, cls, eqVal, reduceCtorEq, Nat.reduceAdd, Nat.reduceMul, Nat.reduceSub, Nat.reduceLT, Nat.reduceLeDiff, Nat.reduceEqDiff, Nat.reduceBEq, Nat.reduceBNe, Int.reduceLT, Int.reduceLE, Int.reduceEq, Int.reduceNe, Int.reduceAdd, Int.reduceSub, Int.reduceNeg, Int.reduceToNat, Int.reduceMul, ↓reduceIte, Int.reduceGT, Int.reduceGE, u0, u1, u2, u3, u4, u5]
  refine callT_one (idx_ok _ _ _ l2 id q2 (by omega)) rfl ?_
  simp (disch := first | omega | (simp only [fsLen]; omega)) only [↓fsPre, fsPost, fsCond, fsGen, fsDefs, fsDefX, cls, eqVal, reduceCtorEq, Nat.reduceAdd, Nat.reduceMul, Nat.reduceSub, Nat.reduceLT, Nat.reduceLeDiff, Nat.reduceEqDiff, Nat.reduceBEq, Nat.reduceBNe, Int.reduceLT, Int.reduceLE, Int.reduceEq, Int.reduceNe, Int.reduceAdd, Int.reduceSub, Int.reduceNeg, Int.reduceToNat, Int.reduceMul, ↓reduceIte, Int.reduceGT, Int.reduceGE]
  simp only [List.length_append, List.length_cons, List.length_nil] at hl ho'
  exact heap_grow2 (by omega) fun b hb => by rw [ho' b (by omega), hget_appl hb]

def rowId : List Tr → Int
  | .leaf (.int .i64 x) :: _ => x
  | _ => 0
theorem IdRows.of {h : Heap} {e n : Nat} {v : NV} {rows : List (List Tr)} (r : (Tr.rows e rows).rep n h v) (hl : rows.length ≤ 20) (f : ∀ j (hj : j < rows.length), ∃ x ts, rows[j] = ti x :: ts ∧ ts.length + 1 = e) : IdRows h e v (rows.map rowId) := by
  simp only [Tr.rep] at r
  rcases r with ⟨rfl, rfl⟩ | ⟨b, c, cs, ro, rfl, h2, h3, h4⟩
  · exact ⟨none, .fix 0, rfl, by simp, fun h => absurd h (by simp)⟩
  · refine ⟨some (b, 0), c, by rw [List.length_map], by rw [List.length_map]; exact hl, fun _ => ⟨b, cs, ro, rfl, h3, fun j hj => ?_⟩⟩
    rw [List.length_map] at hj
    obtain ⟨xs, hc, hx⟩ := Tr.rep_row h4 hj
    obtain ⟨x, ts, e1, e2⟩ := f j hj
    have o := Tr.repCells_one hx
    have l := Tr.repCells_length hx
    rw [e1] at hx l
    simp only [Tr.repCells, rep_ti] at hx
    obtain ⟨_, ys, rfl, rfl, hy⟩ := hx
    refine ⟨ys, by rw [hc, List.getElem_map, e1]; rfl, ?_, by simp at l; omega⟩
    simp only [List.all_cons, Bool.and_eq_true] at o
    exact o.2
theorem FsAt.ids {A : XA} {h : Heap} {z : NV} (x : FsAt A h z) (hl : A.l.length ≤ 20) : IdRows h 3 z A.l := by
  obtain ⟨b, c, cs, ro, rfl, hb, hr⟩ := x
  refine ⟨some (b, 0), c, rfl, hl, fun _ => ⟨b, cs, ro, rfl, hb, fun j hj => ?_⟩⟩
  obtain ⟨s, e⟩ := hr j hj
  exact ⟨_, e, rfl, rfl⟩
theorem HsAt.ids {A : XA} {h : Heap} {z : NV} (x : HsAt A h z) (hl : A.hl.length ≤ 20) : IdRows h 3 z A.hl := by
  obtain ⟨b, c, cs, ro, rfl, hb, hr⟩ := x
  refine ⟨some (b, 0), c, rfl, hl, fun _ => ⟨b, cs, ro, rfl, hb, fun j hj => ?_⟩⟩
  obtain ⟨s, b', c', cs', ro', e, _⟩ := hr j hj
  exact ⟨_, e, rfl, rfl⟩
theorem SsAt.ids {A : XA} {h : Heap} {z : NV} (x : SsAt A h z) (hl : A.sl.length ≤ 20) : IdRows h 5 z A.sl := by
  obtain ⟨a, c, rfl, hr⟩ := x
  refine ⟨a, c, rfl, hl, fun h0 => ?_⟩
  obtain ⟨b, cs, ro, e1, e2, e3⟩ := hr h0
  refine ⟨b, cs, ro, e1, e2, fun j hj => ?_⟩
  obtain ⟨cv, e, hc⟩ := e3 j hj
  exact ⟨_, e, by simp only [List.all_cons, List.all_nil, hc.one]; rfl, rfl⟩

theorem schemaQ.xids {H : Heap} {p n : Nat} {sl : NV} {v : NV} {g : Heap} (h : schemaQ H p n sl (v, g)) :
    ∃ d1 d2 k1 k3 bud z0 z1 z2 z3 z4 z5 z6 z7 z8 l3 l4 l5, v = .agg [z0, z1, z2, z3, z4, z5, z6, z7, z8, .int .i64 bud] ∧ XAt (XA.code d1 d2 0 k1 k3 bud) g z0 z1 z2 z3 z4 z5 z6 z7 z8 (.int .i64 bud) ∧ CodeOK d1 d2 0 k1 k3 bud ∧ CodesSt H g p n sl ∧
      IdRows g 5 z3 l3 ∧ IdRows g 8 z4 l4 ∧ IdRows g 6 z6 l5 := by
  obtain ⟨cs, row, t, x, y, z, w, mb, bud, sts, acs, rls, b, rcs, rfl, hcs, hb, hrc, hrl, hap, hrep, ok, st⟩ := h
  rw [ok.row] at hrep
  simp only [Tr.repCells, rep_ti] at hrep
  obtain ⟨z0, _, rfl, e0, z1, _, rfl, e1, z2, _, rfl, e2, z3, _, rfl, e3, z4, _, rfl, e4, z5, _, rfl, e5, z6, _, rfl, e6, z7, _, rfl, e7, _, _, rfl, rfl, _, _, rfl, rfl, rfl⟩ := hrep
  have hbud : 0 ≤ bud ∧ bud ≤ 1000 := by have := ok.bud; omega
  obtain ⟨d1, d2, k1, k3, hS, hC⟩ := ss_at e2 ok.states hbud
  refine ⟨d1, d2, k1, k3, bud, z0, z1, z2, z3, z4, z5, z6, z7, _, _, _, _, rfl, ⟨fs_at e0, hs_at e1, hS, ⟨Tr.rep_one e3, Tr.rep_one e4, Tr.rep_one e5, Tr.rep_one e6, Tr.rep_one e7, rfl⟩, rfl, hC.ok⟩, hC, st, IdRows.of e3 ?_ ?_, IdRows.of e4 ?_ ?_, IdRows.of e6 ?_ ?_⟩
  · obtain ⟨s2, s4, d, c, rfl, _⟩ := ok.actions
    simp [acts]
  · obtain ⟨s2, s4, d, c, rfl, _⟩ := ok.actions
    intro j hj
    match j, hj with
    | 0, _ => exact ⟨_, _, rfl, rfl⟩
    | 1, _ => exact ⟨_, _, rfl, rfl⟩
    | 2, _ => exact ⟨_, _, rfl, rfl⟩
    | 3, _ => exact ⟨_, _, rfl, rfl⟩
    | 4, _ => exact ⟨_, _, rfl, rfl⟩
    | 5, _ => exact ⟨_, _, rfl, rfl⟩
  · simp [TP.rows]
  · intro j hj
    match j, hj with
    | 0, _ => exact ⟨_, _, rfl, rfl⟩
    | 1, _ => exact ⟨_, _, rfl, rfl⟩
    | 2, _ => exact ⟨_, _, rfl, rfl⟩
    | 3, _ => exact ⟨_, _, rfl, rfl⟩
  · obtain ⟨x, q2, y, q3, rfl, _⟩ := ok.roles
    simp [rolesOf]
  · obtain ⟨x, q2, y, q3, rfl, _⟩ := ok.roles
    intro j hj
    match j, hj with
    | 0, _ => exact ⟨_, _, rfl, rfl⟩
    | 1, _ => exact ⟨_, _, rfl, rfl⟩
    | 2, _ => exact ⟨_, _, rfl, rfl⟩
end Go.Proofs
