/- Ex1, Ex2, Ex3, Ex4, Ex5 in one text. -/
import Derived.Test.YtghjfohjkgllbaaEPValX
import Derived.Test.YtghjfohjkgllbaaVbC
import Derived.Test.YtghjfohjkgllbaaVbD
set_option linter.unusedSimpArgs false
set_option linter.unusedVariables false
set_option maxRecDepth 10000
namespace Go.Proofs
open Go.Ns

/-- The first place of a number in a list, or -1. -/
def ixI (l : List Int) (id : Int) : Int := if id ∈ l then (l.idxOf id : Nat) else -1
theorem ixI_hit {l : List Int} {id : Int} {j : Nat} (hj : j < l.length) (n : ∀ i (hi : i < l.length), i < j → l[i] ≠ id) (e : l[j] = id) : ixI l id = j := by
  unfold ixI
  rw [if_pos (e ▸ List.getElem_mem hj)]
  have h1 : l.idxOf id < l.length := List.idxOf_lt_length_of_mem (e ▸ List.getElem_mem hj)
  have h2 : l[l.idxOf id] = id := List.getElem_idxOf h1
  rcases Nat.lt_trichotomy (l.idxOf id) j with h | h | h
  · exact absurd h2 (n _ h1 h)
  · rw [h]
  · exfalso
    have h3 := List.not_of_lt_findIdx (xs := l) (p := fun x => x == id) h
    simp at h3
    exact h3 e
theorem ixI_miss {l : List Int} {id : Int} (n : ∀ i (hi : i < l.length), l[i] ≠ id) : ixI l id = -1 := by
  unfold ixI
  rw [if_neg]
  intro h
  obtain ⟨i, hi, e⟩ := List.getElem_of_mem h
  exact n i hi e
theorem ixI_range {l : List Int} {id : Int} : -1 ≤ ixI l id ∧ ixI l id < l.length := by
  unfold ixI
  split
  · rename_i h
    have := List.idxOf_lt_length_of_mem h
    omega
  · omega

theorem field_clos (H : Heap) (p : Nat) (id n : Int) (u w : NV) (hp : hget H p = some (.cells [.int .i64 id] false)) (ho : u.one = true ∧ w.one = true) :
    NCall Try.prog 52 [.agg [.int .i64 n, u, w], .ptr (some (p, 0))] H fun r => r = (.bool (decide (n = id)), H) := by
  have hpl := hget_some_lt hp
  obtain ⟨ou, ow⟩ := ho
  refine call_pure E0 mixed t52_ok (by kernel_rfl) trivial ?_
  simp only [t52]
  simp (disch := first | omega | (simp only [fsLen]; omega)) only [↓fsPre, fsPost, fsCond, fsGen, fsDefs, fsDefX, cls, eqVal, reduceCtorEq, Nat.reduceAdd, Nat.reduceMul, Nat.reduceSub, Nat.reduceLT, Nat.reduceLeDiff, Nat.reduceEqDiff, Nat.reduceBEq, Nat.reduceBNe, Int.reduceLT, Int.reduceLE, Int.reduceEq, Int.reduceNe, Int.reduceAdd, Int.reduceSub, Int.reduceNeg, Int.reduceToNat, Int.reduceMul, ↓reduceIte, Int.reduceGT, Int.reduceGE, ou, ow, hp]
  exact ⟨_, rfl⟩

/-- The rows of a list, with their numbers ahead. -/
def FieldRows (cs : List NV) (l : List Int) : Prop := ∀ j (hj : j < l.length), ∃ u w, (u.one = true ∧ w.one = true) ∧ cut cs (j * 3) 3 = some [.int .i64 l[j], u, w]

theorem field_ixf (H : Heap) (p b : Nat) (c : Cap) (cs : List NV) (ro : Bool) (l : List Int) (id : Int) (hb : hget H b = some (.cells cs ro)) (hr : FieldRows cs l) (hl : l.length ≤ 100) (hp : hget H p = some (.cells [.int .i64 id] false)) :
    NCall Try.prog 51 [.slice (some (b, 0)) l.length c, .func (.func 52) [] [.ptr (some (p, 0))]] H fun r => r = (.int .i64 (ixI l id), H) := by
  have hbl := hget_some_lt hb
  refine call_of E0 mixed t51_ok (by kernel_rfl) (by rintro q rfl; simp) ?_
  simp only [t51]
  simp (disch := first | omega | (simp only [fsLen]; omega)) only [↓fsPre, fsPost, fsCond, fsGen, fsDefs, fsDefX, cls, eqVal, reduceCtorEq, Nat.reduceAdd, Nat.reduceMul, Nat.reduceSub, Nat.reduceLT, Nat.reduceLeDiff, Nat.reduceEqDiff, Nat.reduceBEq, Nat.reduceBNe, Int.reduceLT, Int.reduceLE, Int.reduceEq, Int.reduceNe, Int.reduceAdd, Int.reduceSub, Int.reduceNeg, Int.reduceToNat, Int.reduceMul, ↓reduceIte, Int.reduceGT, Int.reduceGE]
  refine wloop (fun j F h => h = H ∧ F 0 = .slice (some (b, 0)) l.length c ∧ F 1 = .func (.func 52) [] [.ptr (some (p, 0))] ∧ F 7 = .int .i64 l.length ∧ F 8 = .int .i64 j ∧ ∀ i (hi : i < l.length), i < j → l[i] ≠ id) l.length ?_ ?_ ?_
  · simp (disch := first | omega | (simp only [fsLen]; omega)) only [↓fsPre, fsPost, fsCond, fsGen, fsDefs, fsDefX, cls, eqVal, reduceCtorEq, Nat.reduceAdd, Nat.reduceMul, Nat.reduceSub, Nat.reduceLT, Nat.reduceLeDiff, Nat.reduceEqDiff, Nat.reduceBEq, Nat.reduceBNe, Int.reduceLT, Int.reduceLE, Int.reduceEq, Int.reduceNe, Int.reduceAdd, Int.reduceSub, Int.reduceNeg, Int.reduceToNat, Int.reduceMul, ↓reduceIte, Int.reduceGT, Int.reduceGE]
    exact fun i _ h => absurd h (Nat.not_lt_zero i)
  · rintro j F h hj ⟨rfl, f0, f1, f7, f8, hn⟩
    obtain ⟨u, w, ⟨ou, ow⟩, hc⟩ := hr j hj
    simp (disch := first | omega | (simp only [fsLen]; omega)) only [↓fsPre, fsPost, fsCond, fsGen, fsDefs, fsDefX, cls, eqVal, reduceCtorEq, Nat.reduceAdd, Nat.reduceMul, Nat.reduceSub, Nat.reduceLT, Nat.reduceLeDiff, Nat.reduceEqDiff, Nat.reduceBEq, Nat.reduceBNe, Int.reduceLT, Int.reduceLE, Int.reduceEq, Int.reduceNe, Int.reduceAdd, Int.reduceSub, Int.reduceNeg, Int.reduceToNat, Int.reduceMul, ↓reduceIte, Int.reduceGT, Int.reduceGE, f0, f1, f7, f8, hb, hc, ou, ow]
    refine callT_one (field_clos _ p id _ _ _ hp ⟨ou, ow⟩) rfl ?_
    simp (disch := first | omega | (simp only [fsLen]; omega)) only [↓fsPre, fsPost, fsCond, fsGen, fsDefs, fsDefX, cls, eqVal, reduceCtorEq, Nat.reduceAdd, Nat.reduceMul, Nat.reduceSub, Nat.reduceLT, Nat.reduceLeDiff, Nat.reduceEqDiff, Nat.reduceBEq, Nat.reduceBNe, Int.reduceLT, Int.reduceLE, Int.reduceEq, Int.reduceNe, Int.reduceAdd, Int.reduceSub, Int.reduceNeg, Int.reduceToNat, Int.reduceMul, ↓reduceIte, Int.reduceGT, Int.reduceGE, f0, f1, f7, f8]
    refine condK_dec (fun he => ?_) (fun he => ?_)
    · simp (disch := first | omega | (simp only [fsLen]; omega)) only [↓fsPre, fsPost, fsCond, fsGen, fsDefs, fsDefX, cls, eqVal, reduceCtorEq, Nat.reduceAdd, Nat.reduceMul, Nat.reduceSub, Nat.reduceLT, Nat.reduceLeDiff, Nat.reduceEqDiff, Nat.reduceBEq, Nat.reduceBNe, Int.reduceLT, Int.reduceLE, Int.reduceEq, Int.reduceNe, Int.reduceAdd, Int.reduceSub, Int.reduceNeg, Int.reduceToNat, Int.reduceMul, ↓reduceIte, Int.reduceGT, Int.reduceGE, f0, f1, f7, f8]
      rw [ixI_hit hj hn he]
    · simp (disch := first | omega | (simp only [fsLen]; omega)) only [↓fsPre, fsPost, fsCond, fsGen, fsDefs, fsDefX, cls, eqVal, reduceCtorEq, Nat.reduceAdd, Nat.reduceMul, Nat.reduceSub, Nat.reduceLT, Nat.reduceLeDiff, Nat.reduceEqDiff, Nat.reduceBEq, Nat.reduceBNe, Int.reduceLT, Int.reduceLE, Int.reduceEq, Int.reduceNe, Int.reduceAdd, Int.reduceSub, Int.reduceNeg, Int.reduceToNat, Int.reduceMul, ↓reduceIte, Int.reduceGT, Int.reduceGE, f0, f1, f7, f8]
      intro i hi h2
      by_cases h3 : i = j
      · subst h3; exact he
      · exact hn i hi (by omega)
  · rintro F h ⟨rfl, f0, f1, f7, f8, hn⟩
    simp (disch := first | omega | (simp only [fsLen]; omega)) only [↓fsPre, fsPost, fsCond, fsGen, fsDefs, fsDefX, cls, eqVal, reduceCtorEq, Nat.reduceAdd, Nat.reduceMul, Nat.reduceSub, Nat.reduceLT, Nat.reduceLeDiff, Nat.reduceEqDiff, Nat.reduceBEq, Nat.reduceBNe, Int.reduceLT, Int.reduceLE, Int.reduceEq, Int.reduceNe, Int.reduceAdd, Int.reduceSub, Int.reduceNeg, Int.reduceToNat, Int.reduceMul, ↓reduceIte, Int.reduceGT, Int.reduceGE, f0, f1, f7, f8]
    rw [ixI_miss fun i hi => hn i hi hi]

theorem fieldOf_ok (H : Heap) (b : Nat) (c : Cap) (cs : List NV) (ro : Bool) (l : List Int) (id : Int) (z1 z2 z3 z4 z5 z6 z7 z8 z9 : NV) (ho : z1.one = true ∧ z2.one = true ∧ z3.one = true ∧ z4.one = true ∧ z5.one = true ∧ z6.one = true ∧ z7.one = true ∧ z8.one = true ∧ z9.one = true) (hb : hget H b = some (.cells cs ro)) (hr : FieldRows cs l) (hl : l.length ≤ 100) :
    NCall Try.prog 32 [.agg [.slice (some (b, 0)) l.length c, z1, z2, z3, z4, z5, z6, z7, z8, z9], .int .i64 id] H fun r => r = (.int .i64 (ixI l id), H) := by
  obtain ⟨o1, o2, o3, o4, o5, o6, o7, o8, o9⟩ := ho
  have hbl := hget_some_lt hb
  refine call_pure E0 mixed t32_ok (by kernel_rfl) trivial ?_
  simp only [t32]
  simp (disch := first | omega | (simp only [fsLen]; omega)) only [↓fsPre, fsPost, fsCond, fsGen, fsDefs, fsDefX, cls, eqVal, reduceCtorEq, Nat.reduceAdd, Nat.reduceMul, Nat.reduceSub, Nat.reduceLT, Nat.reduceLeDiff, Nat.reduceEqDiff, Nat.reduceBEq, Nat.reduceBNe, Int.reduceLT, Int.reduceLE, Int.reduceEq, Int.reduceNe, Int.reduceAdd, Int.reduceSub, Int.reduceNeg, Int.reduceToNat, Int.reduceMul, ↓reduceIte, Int.reduceGT, Int.reduceGE, o1, o2, o3, o4, o5, o6, o7, o8, o9]
  refine callT_one (field_ixf _ (H.length + 1) b c cs ro l id (by simp (disch := first | omega | (simp only [fsLen]; omega)) only [↓fsPre, fsPost, fsCond, fsGen, fsDefs, fsDefX, cls, eqVal, reduceCtorEq, Nat.reduceAdd, Nat.reduceMul, Nat.reduceSub, Nat.reduceLT, Nat.reduceLeDiff, Nat.reduceEqDiff, Nat.reduceBEq, Nat.reduceBNe, Int.reduceLT, Int.reduceLE, Int.reduceEq, Int.reduceNe, Int.reduceAdd, Int.reduceSub, Int.reduceNeg, Int.reduceToNat, Int.reduceMul, ↓reduceIte, Int.reduceGT, Int.reduceGE]; exact hb) hr hl (by simp (disch := first | omega | (simp only [fsLen]; omega)) only [↓fsPre, fsPost, fsCond, fsGen, fsDefs, fsDefX, cls, eqVal, reduceCtorEq, Nat.reduceAdd, Nat.reduceMul, Nat.reduceSub, Nat.reduceLT, Nat.reduceLeDiff, Nat.reduceEqDiff, Nat.reduceBEq, Nat.reduceBNe, Int.reduceLT, Int.reduceLE, Int.reduceEq, Int.reduceNe, Int.reduceAdd, Int.reduceSub, Int.reduceNeg, Int.reduceToNat, Int.reduceMul, ↓reduceIte, Int.reduceGT, Int.reduceGE])) rfl ?_
  simp (disch := first | omega | (simp only [fsLen]; omega)) only [↓fsPre, fsPost, fsCond, fsGen, fsDefs, fsDefX, cls, eqVal, reduceCtorEq, Nat.reduceAdd, Nat.reduceMul, Nat.reduceSub, Nat.reduceLT, Nat.reduceLeDiff, Nat.reduceEqDiff, Nat.reduceBEq, Nat.reduceBNe, Int.reduceLT, Int.reduceLE, Int.reduceEq, Int.reduceNe, Int.reduceAdd, Int.reduceSub, Int.reduceNeg, Int.reduceToNat, Int.reduceMul, ↓reduceIte, Int.reduceGT, Int.reduceGE]
  exact ⟨_, rfl⟩

theorem hdr_clos (H : Heap) (p : Nat) (id n : Int) (u w : NV) (hp : hget H p = some (.cells [.int .i64 id] false)) (ho : u.one = true ∧ w.one = true) :
    NCall Try.prog 60 [.agg [.int .i64 n, u, w], .ptr (some (p, 0))] H fun r => r = (.bool (decide (n = id)), H) := by
  have hpl := hget_some_lt hp
  obtain ⟨ou, ow⟩ := ho
  refine call_pure E0 mixed t60_ok (by kernel_rfl) trivial ?_
  simp only [t60]
  simp (disch := first | omega | (simp only [fsLen]; omega)) only [↓fsPre, fsPost, fsCond, fsGen, fsDefs, fsDefX, cls, eqVal, reduceCtorEq, Nat.reduceAdd, Nat.reduceMul, Nat.reduceSub, Nat.reduceLT, Nat.reduceLeDiff, Nat.reduceEqDiff, Nat.reduceBEq, Nat.reduceBNe, Int.reduceLT, Int.reduceLE, Int.reduceEq, Int.reduceNe, Int.reduceAdd, Int.reduceSub, Int.reduceNeg, Int.reduceToNat, Int.reduceMul, ↓reduceIte, Int.reduceGT, Int.reduceGE, ou, ow, hp]
  exact ⟨_, rfl⟩

/-- The rows of a list, with their numbers ahead. -/
def HeaderRows (cs : List NV) (l : List Int) : Prop := ∀ j (hj : j < l.length), ∃ u w, (u.one = true ∧ w.one = true) ∧ cut cs (j * 3) 3 = some [.int .i64 l[j], u, w]

theorem hdr_ixf (H : Heap) (p b : Nat) (c : Cap) (cs : List NV) (ro : Bool) (l : List Int) (id : Int) (hb : hget H b = some (.cells cs ro)) (hr : HeaderRows cs l) (hl : l.length ≤ 100) (hp : hget H p = some (.cells [.int .i64 id] false)) :
    NCall Try.prog 59 [.slice (some (b, 0)) l.length c, .func (.func 60) [] [.ptr (some (p, 0))]] H fun r => r = (.int .i64 (ixI l id), H) := by
  have hbl := hget_some_lt hb
  refine call_of E0 mixed t59_ok (by kernel_rfl) (by rintro q rfl; simp) ?_
  simp only [t59]
  simp (disch := first | omega | (simp only [fsLen]; omega)) only [↓fsPre, fsPost, fsCond, fsGen, fsDefs, fsDefX, cls, eqVal, reduceCtorEq, Nat.reduceAdd, Nat.reduceMul, Nat.reduceSub, Nat.reduceLT, Nat.reduceLeDiff, Nat.reduceEqDiff, Nat.reduceBEq, Nat.reduceBNe, Int.reduceLT, Int.reduceLE, Int.reduceEq, Int.reduceNe, Int.reduceAdd, Int.reduceSub, Int.reduceNeg, Int.reduceToNat, Int.reduceMul, ↓reduceIte, Int.reduceGT, Int.reduceGE]
  refine wloop (fun j F h => h = H ∧ F 0 = .slice (some (b, 0)) l.length c ∧ F 1 = .func (.func 60) [] [.ptr (some (p, 0))] ∧ F 7 = .int .i64 l.length ∧ F 8 = .int .i64 j ∧ ∀ i (hi : i < l.length), i < j → l[i] ≠ id) l.length ?_ ?_ ?_
  · simp (disch := first | omega | (simp only [fsLen]; omega)) only [↓fsPre, fsPost, fsCond, fsGen, fsDefs, fsDefX, cls, eqVal, reduceCtorEq, Nat.reduceAdd, Nat.reduceMul, Nat.reduceSub, Nat.reduceLT, Nat.reduceLeDiff, Nat.reduceEqDiff, Nat.reduceBEq, Nat.reduceBNe, Int.reduceLT, Int.reduceLE, Int.reduceEq, Int.reduceNe, Int.reduceAdd, Int.reduceSub, Int.reduceNeg, Int.reduceToNat, Int.reduceMul, ↓reduceIte, Int.reduceGT, Int.reduceGE]
    exact fun i _ h => absurd h (Nat.not_lt_zero i)
  · rintro j F h hj ⟨rfl, f0, f1, f7, f8, hn⟩
    obtain ⟨u, w, ⟨ou, ow⟩, hc⟩ := hr j hj
    simp (disch := first | omega | (simp only [fsLen]; omega)) only [↓fsPre, fsPost, fsCond, fsGen, fsDefs, fsDefX, cls, eqVal, reduceCtorEq, Nat.reduceAdd, Nat.reduceMul, Nat.reduceSub, Nat.reduceLT, Nat.reduceLeDiff, Nat.reduceEqDiff, Nat.reduceBEq, Nat.reduceBNe, Int.reduceLT, Int.reduceLE, Int.reduceEq, Int.reduceNe, Int.reduceAdd, Int.reduceSub, Int.reduceNeg, Int.reduceToNat, Int.reduceMul, ↓reduceIte, Int.reduceGT, Int.reduceGE, f0, f1, f7, f8, hb, hc, ou, ow]
    refine callT_one (hdr_clos _ p id _ _ _ hp ⟨ou, ow⟩) rfl ?_
    simp (disch := first | omega | (simp only [fsLen]; omega)) only [↓fsPre, fsPost, fsCond, fsGen, fsDefs, fsDefX, cls, eqVal, reduceCtorEq, Nat.reduceAdd, Nat.reduceMul, Nat.reduceSub, Nat.reduceLT, Nat.reduceLeDiff, Nat.reduceEqDiff, Nat.reduceBEq, Nat.reduceBNe, Int.reduceLT, Int.reduceLE, Int.reduceEq, Int.reduceNe, Int.reduceAdd, Int.reduceSub, Int.reduceNeg, Int.reduceToNat, Int.reduceMul, ↓reduceIte, Int.reduceGT, Int.reduceGE, f0, f1, f7, f8]
    refine condK_dec (fun he => ?_) (fun he => ?_)
    · simp (disch := first | omega | (simp only [fsLen]; omega)) only [↓fsPre, fsPost, fsCond, fsGen, fsDefs, fsDefX, cls, eqVal, reduceCtorEq, Nat.reduceAdd, Nat.reduceMul, Nat.reduceSub, Nat.reduceLT, Nat.reduceLeDiff, Nat.reduceEqDiff, Nat.reduceBEq, Nat.reduceBNe, Int.reduceLT, Int.reduceLE, Int.reduceEq, Int.reduceNe, Int.reduceAdd, Int.reduceSub, Int.reduceNeg, Int.reduceToNat, Int.reduceMul, ↓reduceIte, Int.reduceGT, Int.reduceGE, f0, f1, f7, f8]
      rw [ixI_hit hj hn he]
    · simp (disch := first | omega | (simp only [fsLen]; omega)) only [↓fsPre, fsPost, fsCond, fsGen, fsDefs, fsDefX, cls, eqVal, reduceCtorEq, Nat.reduceAdd, Nat.reduceMul, Nat.reduceSub, Nat.reduceLT, Nat.reduceLeDiff, Nat.reduceEqDiff, Nat.reduceBEq, Nat.reduceBNe, Int.reduceLT, Int.reduceLE, Int.reduceEq, Int.reduceNe, Int.reduceAdd, Int.reduceSub, Int.reduceNeg, Int.reduceToNat, Int.reduceMul, ↓reduceIte, Int.reduceGT, Int.reduceGE, f0, f1, f7, f8]
      intro i hi h2
      by_cases h3 : i = j
      · subst h3; exact he
      · exact hn i hi (by omega)
  · rintro F h ⟨rfl, f0, f1, f7, f8, hn⟩
    simp (disch := first | omega | (simp only [fsLen]; omega)) only [↓fsPre, fsPost, fsCond, fsGen, fsDefs, fsDefX, cls, eqVal, reduceCtorEq, Nat.reduceAdd, Nat.reduceMul, Nat.reduceSub, Nat.reduceLT, Nat.reduceLeDiff, Nat.reduceEqDiff, Nat.reduceBEq, Nat.reduceBNe, Int.reduceLT, Int.reduceLE, Int.reduceEq, Int.reduceNe, Int.reduceAdd, Int.reduceSub, Int.reduceNeg, Int.reduceToNat, Int.reduceMul, ↓reduceIte, Int.reduceGT, Int.reduceGE, f0, f1, f7, f8]
    rw [ixI_miss fun i hi => hn i hi hi]

theorem hdrOf_ok (H : Heap) (b : Nat) (c : Cap) (cs : List NV) (ro : Bool) (l : List Int) (id : Int) (z0 z2 z3 z4 z5 z6 z7 z8 z9 : NV) (ho : z0.one = true ∧ z2.one = true ∧ z3.one = true ∧ z4.one = true ∧ z5.one = true ∧ z6.one = true ∧ z7.one = true ∧ z8.one = true ∧ z9.one = true) (hb : hget H b = some (.cells cs ro)) (hr : HeaderRows cs l) (hl : l.length ≤ 100) :
    NCall Try.prog 36 [.agg [z0, .slice (some (b, 0)) l.length c, z2, z3, z4, z5, z6, z7, z8, z9], .int .i64 id] H fun r => r = (.int .i64 (ixI l id), H) := by
  obtain ⟨o0, o2, o3, o4, o5, o6, o7, o8, o9⟩ := ho
  have hbl := hget_some_lt hb
  refine call_pure E0 mixed t36_ok (by kernel_rfl) trivial ?_
  simp only [t36]
  simp (disch := first | omega | (simp only [fsLen]; omega)) only [↓fsPre, fsPost, fsCond, fsGen, fsDefs, fsDefX, cls, eqVal, reduceCtorEq, Nat.reduceAdd, Nat.reduceMul, Nat.reduceSub, Nat.reduceLT, Nat.reduceLeDiff, Nat.reduceEqDiff, Nat.reduceBEq, Nat.reduceBNe, Int.reduceLT, Int.reduceLE, Int.reduceEq, Int.reduceNe, Int.reduceAdd, Int.reduceSub, Int.reduceNeg, Int.reduceToNat, Int.reduceMul, ↓reduceIte, Int.reduceGT, Int.reduceGE, o0, o2, o3, o4, o5, o6, o7, o8, o9]
  refine callT_one (hdr_ixf _ (H.length + 1) b c cs ro l id (by simp (disch := first | omega | (simp only [fsLen]; omega)) only [↓fsPre, fsPost, fsCond, fsGen, fsDefs, fsDefX, cls, eqVal, reduceCtorEq, Nat.reduceAdd, Nat.reduceMul, Nat.reduceSub, Nat.reduceLT, Nat.reduceLeDiff, Nat.reduceEqDiff, Nat.reduceBEq, Nat.reduceBNe, Int.reduceLT, Int.reduceLE, Int.reduceEq, Int.reduceNe, Int.reduceAdd, Int.reduceSub, Int.reduceNeg, Int.reduceToNat, Int.reduceMul, ↓reduceIte, Int.reduceGT, Int.reduceGE]; exact hb) hr hl (by simp (disch := first | omega | (simp only [fsLen]; omega)) only [↓fsPre, fsPost, fsCond, fsGen, fsDefs, fsDefX, cls, eqVal, reduceCtorEq, Nat.reduceAdd, Nat.reduceMul, Nat.reduceSub, Nat.reduceLT, Nat.reduceLeDiff, Nat.reduceEqDiff, Nat.reduceBEq, Nat.reduceBNe, Int.reduceLT, Int.reduceLE, Int.reduceEq, Int.reduceNe, Int.reduceAdd, Int.reduceSub, Int.reduceNeg, Int.reduceToNat, Int.reduceMul, ↓reduceIte, Int.reduceGT, Int.reduceGE])) rfl ?_
  simp (disch := first | omega | (simp only [fsLen]; omega)) only [↓fsPre, fsPost, fsCond, fsGen, fsDefs, fsDefX, cls, eqVal, reduceCtorEq, Nat.reduceAdd, Nat.reduceMul, Nat.reduceSub, Nat.reduceLT, Nat.reduceLeDiff, Nat.reduceEqDiff, Nat.reduceBEq, Nat.reduceBNe, Int.reduceLT, Int.reduceLE, Int.reduceEq, Int.reduceNe, Int.reduceAdd, Int.reduceSub, Int.reduceNeg, Int.reduceToNat, Int.reduceMul, ↓reduceIte, Int.reduceGT, Int.reduceGE]
  exact ⟨_, rfl⟩

theorem state_clos (H : Heap) (p : Nat) (id n : Int) (u w x y : NV) (hp : hget H p = some (.cells [.int .i64 id] false)) (ho : u.one = true ∧ w.one = true ∧ x.one = true ∧ y.one = true) :
    NCall Try.prog 63 [.agg [.int .i64 n, u, w, x, y], .ptr (some (p, 0))] H fun r => r = (.bool (decide (n = id)), H) := by
  have hpl := hget_some_lt hp
  obtain ⟨ou, ow, ox, oy⟩ := ho
  refine call_pure E0 mixed t63_ok (by kernel_rfl) trivial ?_
  simp only [t63]
  simp (disch := first | omega | (simp only [fsLen]; omega)) only [↓fsPre, fsPost, fsCond, fsGen, fsDefs, fsDefX, cls, eqVal, reduceCtorEq, Nat.reduceAdd, Nat.reduceMul, Nat.reduceSub, Nat.reduceLT, Nat.reduceLeDiff, Nat.reduceEqDiff, Nat.reduceBEq, Nat.reduceBNe, Int.reduceLT, Int.reduceLE, Int.reduceEq, Int.reduceNe, Int.reduceAdd, Int.reduceSub, Int.reduceNeg, Int.reduceToNat, Int.reduceMul, ↓reduceIte, Int.reduceGT, Int.reduceGE, ou, ow, ox, oy, hp]
  exact ⟨_, rfl⟩

/-- The rows of a list, with their numbers ahead. -/
def StateRows (cs : List NV) (l : List Int) : Prop := ∀ j (hj : j < l.length), ∃ u w x y, (u.one = true ∧ w.one = true ∧ x.one = true ∧ y.one = true) ∧ cut cs (j * 5) 5 = some [.int .i64 l[j], u, w, x, y]

theorem state_ixf (H : Heap) (p b : Nat) (c : Cap) (cs : List NV) (ro : Bool) (l : List Int) (id : Int) (hb : hget H b = some (.cells cs ro)) (hr : StateRows cs l) (hl : l.length ≤ 100) (hp : hget H p = some (.cells [.int .i64 id] false)) :
    NCall Try.prog 62 [.slice (some (b, 0)) l.length c, .func (.func 63) [] [.ptr (some (p, 0))]] H fun r => r = (.int .i64 (ixI l id), H) := by
  have hbl := hget_some_lt hb
  refine call_of E0 mixed t62_ok (by kernel_rfl) (by rintro q rfl; simp) ?_
  simp only [t62]
  simp (disch := first | omega | (simp only [fsLen]; omega)) only [↓fsPre, fsPost, fsCond, fsGen, fsDefs, fsDefX, cls, eqVal, reduceCtorEq, Nat.reduceAdd, Nat.reduceMul, Nat.reduceSub, Nat.reduceLT, Nat.reduceLeDiff, Nat.reduceEqDiff, Nat.reduceBEq, Nat.reduceBNe, Int.reduceLT, Int.reduceLE, Int.reduceEq, Int.reduceNe, Int.reduceAdd, Int.reduceSub, Int.reduceNeg, Int.reduceToNat, Int.reduceMul, ↓reduceIte, Int.reduceGT, Int.reduceGE]
  refine wloop (fun j F h => h = H ∧ F 0 = .slice (some (b, 0)) l.length c ∧ F 1 = .func (.func 63) [] [.ptr (some (p, 0))] ∧ F 7 = .int .i64 l.length ∧ F 8 = .int .i64 j ∧ ∀ i (hi : i < l.length), i < j → l[i] ≠ id) l.length ?_ ?_ ?_
  · simp (disch := first | omega | (simp only [fsLen]; omega)) only [↓fsPre, fsPost, fsCond, fsGen, fsDefs, fsDefX, cls, eqVal, reduceCtorEq, Nat.reduceAdd, Nat.reduceMul, Nat.reduceSub, Nat.reduceLT, Nat.reduceLeDiff, Nat.reduceEqDiff, Nat.reduceBEq, Nat.reduceBNe, Int.reduceLT, Int.reduceLE, Int.reduceEq, Int.reduceNe, Int.reduceAdd, Int.reduceSub, Int.reduceNeg, Int.reduceToNat, Int.reduceMul, ↓reduceIte, Int.reduceGT, Int.reduceGE]
    exact fun i _ h => absurd h (Nat.not_lt_zero i)
  · rintro j F h hj ⟨rfl, f0, f1, f7, f8, hn⟩
    obtain ⟨u, w, x, y, ⟨ou, ow, ox, oy⟩, hc⟩ := hr j hj
    simp (disch := first | omega | (simp only [fsLen]; omega)) only [↓fsPre, fsPost, fsCond, fsGen, fsDefs, fsDefX, cls, eqVal, reduceCtorEq, Nat.reduceAdd, Nat.reduceMul, Nat.reduceSub, Nat.reduceLT, Nat.reduceLeDiff, Nat.reduceEqDiff, Nat.reduceBEq, Nat.reduceBNe, Int.reduceLT, Int.reduceLE, Int.reduceEq, Int.reduceNe, Int.reduceAdd, Int.reduceSub, Int.reduceNeg, Int.reduceToNat, Int.reduceMul, ↓reduceIte, Int.reduceGT, Int.reduceGE, f0, f1, f7, f8, hb, hc, ou, ow, ox, oy]
    refine callT_one (state_clos _ p id _ _ _ _ _ hp ⟨ou, ow, ox, oy⟩) rfl ?_
    simp (disch := first | omega | (simp only [fsLen]; omega)) only [↓fsPre, fsPost, fsCond, fsGen, fsDefs, fsDefX, cls, eqVal, reduceCtorEq, Nat.reduceAdd, Nat.reduceMul, Nat.reduceSub, Nat.reduceLT, Nat.reduceLeDiff, Nat.reduceEqDiff, Nat.reduceBEq, Nat.reduceBNe, Int.reduceLT, Int.reduceLE, Int.reduceEq, Int.reduceNe, Int.reduceAdd, Int.reduceSub, Int.reduceNeg, Int.reduceToNat, Int.reduceMul, ↓reduceIte, Int.reduceGT, Int.reduceGE, f0, f1, f7, f8]
    refine condK_dec (fun he => ?_) (fun he => ?_)
    · simp (disch := first | omega | (simp only [fsLen]; omega)) only [↓fsPre, fsPost, fsCond, fsGen, fsDefs, fsDefX, cls, eqVal, reduceCtorEq, Nat.reduceAdd, Nat.reduceMul, Nat.reduceSub, Nat.reduceLT, Nat.reduceLeDiff, Nat.reduceEqDiff, Nat.reduceBEq, Nat.reduceBNe, Int.reduceLT, Int.reduceLE, Int.reduceEq, Int.reduceNe, Int.reduceAdd, Int.reduceSub, Int.reduceNeg, Int.reduceToNat, Int.reduceMul, ↓reduceIte, Int.reduceGT, Int.reduceGE, f0, f1, f7, f8]
      rw [ixI_hit hj hn he]
    · simp (disch := first | omega | (simp only [fsLen]; omega)) only [↓fsPre, fsPost, fsCond, fsGen, fsDefs, fsDefX, cls, eqVal, reduceCtorEq, Nat.reduceAdd, Nat.reduceMul, Nat.reduceSub, Nat.reduceLT, Nat.reduceLeDiff, Nat.reduceEqDiff, Nat.reduceBEq, Nat.reduceBNe, Int.reduceLT, Int.reduceLE, Int.reduceEq, Int.reduceNe, Int.reduceAdd, Int.reduceSub, Int.reduceNeg, Int.reduceToNat, Int.reduceMul, ↓reduceIte, Int.reduceGT, Int.reduceGE, f0, f1, f7, f8]
      intro i hi h2
      by_cases h3 : i = j
      · subst h3; exact he
      · exact hn i hi (by omega)
  · rintro F h ⟨rfl, f0, f1, f7, f8, hn⟩
    simp (disch := first | omega | (simp only [fsLen]; omega)) only [↓fsPre, fsPost, fsCond, fsGen, fsDefs, fsDefX, cls, eqVal, reduceCtorEq, Nat.reduceAdd, Nat.reduceMul, Nat.reduceSub, Nat.reduceLT, Nat.reduceLeDiff, Nat.reduceEqDiff, Nat.reduceBEq, Nat.reduceBNe, Int.reduceLT, Int.reduceLE, Int.reduceEq, Int.reduceNe, Int.reduceAdd, Int.reduceSub, Int.reduceNeg, Int.reduceToNat, Int.reduceMul, ↓reduceIte, Int.reduceGT, Int.reduceGE, f0, f1, f7, f8]
    rw [ixI_miss fun i hi => hn i hi hi]

theorem stateOf_ok (H : Heap) (b : Nat) (c : Cap) (cs : List NV) (ro : Bool) (l : List Int) (id : Int) (z0 z1 z3 z4 z5 z6 z7 z8 z9 : NV) (ho : z0.one = true ∧ z1.one = true ∧ z3.one = true ∧ z4.one = true ∧ z5.one = true ∧ z6.one = true ∧ z7.one = true ∧ z8.one = true ∧ z9.one = true) (hb : hget H b = some (.cells cs ro)) (hr : StateRows cs l) (hl : l.length ≤ 100) :
    NCall Try.prog 38 [.agg [z0, z1, .slice (some (b, 0)) l.length c, z3, z4, z5, z6, z7, z8, z9], .int .i64 id] H fun r => r = (.int .i64 (ixI l id), H) := by
  obtain ⟨o0, o1, o3, o4, o5, o6, o7, o8, o9⟩ := ho
  have hbl := hget_some_lt hb
  refine call_pure E0 mixed t38_ok (by kernel_rfl) trivial ?_
  simp only [t38]
  simp (disch := first | omega | (simp only [fsLen]; omega)) only [↓fsPre, fsPost, fsCond, fsGen, fsDefs, fsDefX, cls, eqVal, reduceCtorEq, Nat.reduceAdd, Nat.reduceMul, Nat.reduceSub, Nat.reduceLT, Nat.reduceLeDiff, Nat.reduceEqDiff, Nat.reduceBEq, Nat.reduceBNe, Int.reduceLT, Int.reduceLE, Int.reduceEq, Int.reduceNe, Int.reduceAdd, Int.reduceSub, Int.reduceNeg, Int.reduceToNat, Int.reduceMul, ↓reduceIte, Int.reduceGT, Int.reduceGE, o0, o1, o3, o4, o5, o6, o7, o8, o9]
  refine callT_one (state_ixf _ (H.length + 1) b c cs ro l id (by simp (disch := first | omega | (simp only [fsLen]; omega)) only [↓fsPre, fsPost, fsCond, fsGen, fsDefs, fsDefX, cls, eqVal, reduceCtorEq, Nat.reduceAdd, Nat.reduceMul, Nat.reduceSub, Nat.reduceLT, Nat.reduceLeDiff, Nat.reduceEqDiff, Nat.reduceBEq, Nat.reduceBNe, Int.reduceLT, Int.reduceLE, Int.reduceEq, Int.reduceNe, Int.reduceAdd, Int.reduceSub, Int.reduceNeg, Int.reduceToNat, Int.reduceMul, ↓reduceIte, Int.reduceGT, Int.reduceGE]; exact hb) hr hl (by simp (disch := first | omega | (simp only [fsLen]; omega)) only [↓fsPre, fsPost, fsCond, fsGen, fsDefs, fsDefX, cls, eqVal, reduceCtorEq, Nat.reduceAdd, Nat.reduceMul, Nat.reduceSub, Nat.reduceLT, Nat.reduceLeDiff, Nat.reduceEqDiff, Nat.reduceBEq, Nat.reduceBNe, Int.reduceLT, Int.reduceLE, Int.reduceEq, Int.reduceNe, Int.reduceAdd, Int.reduceSub, Int.reduceNeg, Int.reduceToNat, Int.reduceMul, ↓reduceIte, Int.reduceGT, Int.reduceGE])) rfl ?_
  simp (disch := first | omega | (simp only [fsLen]; omega)) only [↓fsPre, fsPost, fsCond, fsGen, fsDefs, fsDefX, cls, eqVal, reduceCtorEq, Nat.reduceAdd, Nat.reduceMul, Nat.reduceSub, Nat.reduceLT, Nat.reduceLeDiff, Nat.reduceEqDiff, Nat.reduceBEq, Nat.reduceBNe, Int.reduceLT, Int.reduceLE, Int.reduceEq, Int.reduceNe, Int.reduceAdd, Int.reduceSub, Int.reduceNeg, Int.reduceToNat, Int.reduceMul, ↓reduceIte, Int.reduceGT, Int.reduceGE]
  exact ⟨_, rfl⟩

structure XCase where
  value : BitVec 128
  mask : BitVec 128
  next : Int
structure XSt where
  hd : Int
  sel : Int
  cases : List XCase
  dflt : Int
/-- A schema: the fields with their bits, the headers with their fields, the states. -/
structure XA where
  l : List Int
  w : Nat → Nat
  hl : List Int
  hf : Nat → List Int
  sl : List Int
  sd : Nat → XSt
  bud : Int
def XA.bits (A : XA) (id : Int) : Nat := A.w (A.l.idxOf id)
def XA.sum (A : XA) (ids : List Int) : Nat := (ids.map A.bits).sum
structure XA.OK (A : XA) : Prop where
  nl : A.l.length ≤ 100
  nh : A.hl.length ≤ 100
  ns : A.sl.length ≤ 100
  hf : ∀ j, j < A.hl.length → (A.hf j).length ≤ 100 ∧ (∀ id ∈ A.hf j, id ∈ A.l) ∧ 8 ≤ A.sum (A.hf j) ∧ A.sum (A.hf j) ≤ 10000 ∧ A.sum (A.hf j) % 8 = 0
  hd : ∀ j, j < A.sl.length → (A.sd j).hd = 0 ∨ (A.sd j).hd ∈ A.hl
  sel : ∀ j, j < A.sl.length → (A.sd j).sel = 0 ∨ (A.sd j).sel ∈ A.l
  cl : ∀ j, j < A.sl.length → (A.sd j).cases.length ≤ 100
  nx : ∀ j, j < A.sl.length → ∀ c ∈ (A.sd j).cases, c.next = 0 ∨ c.next = 65535 ∨ c.next ∈ A.sl
  df : ∀ j, j < A.sl.length → (A.sd j).dflt = 0 ∨ (A.sd j).dflt = 65535 ∨ (A.sd j).dflt ∈ A.sl
  bud : 0 ≤ A.bud ∧ A.bud ≤ 1000

/-- How it lies in a heap. -/
def FsAt (A : XA) (h : Heap) (v : NV) : Prop := ∃ b c cs ro, v = .slice (some (b, 0)) A.l.length c ∧ hget h b = some (.cells cs ro) ∧ ∀ j (hj : j < A.l.length), ∃ s : ByteArray, cut cs (j * 3) 3 = some [.int .i64 A.l[j], .str s, .int .i64 (A.w j)]
def HsAt (A : XA) (h : Heap) (v : NV) : Prop := ∃ b c cs ro, v = .slice (some (b, 0)) A.hl.length c ∧ hget h b = some (.cells cs ro) ∧ ∀ j (hj : j < A.hl.length), ∃ (s : ByteArray) (b' : Nat) (c' : Cap) (cs' : List NV) (ro' : Bool),
  cut cs (j * 3) 3 = some [.int .i64 A.hl[j], .str s, .slice (some (b', 0)) (A.hf j).length c'] ∧ hget h b' = some (.cells cs' ro') ∧ ∀ i (hi : i < (A.hf j).length), cs'[i]? = some (.int .i64 (A.hf j)[i])
def XCase.cells (c : XCase) : List NV := [nb (hiOf c.value), nb (loOf c.value), nb (hiOf c.mask), nb (loOf c.mask), .int .i64 c.next]
def CasesAt (h : Heap) (v : NV) (ks : List XCase) : Prop := ∃ a c, v = .slice a ks.length c ∧ (0 < ks.length → ∃ b cs ro, a = some (b, 0) ∧ hget h b = some (.cells cs ro) ∧ ∀ i (hi : i < ks.length), cut cs (i * 5) 5 = some ks[i].cells)
def SsAt (A : XA) (h : Heap) (v : NV) : Prop := ∃ a c, v = .slice a A.sl.length c ∧ (0 < A.sl.length → ∃ b cs ro, a = some (b, 0) ∧ hget h b = some (.cells cs ro) ∧ ∀ j (hj : j < A.sl.length), ∃ cv,
  cut cs (j * 5) 5 = some [.int .i64 A.sl[j], .int .i64 (A.sd j).hd, .int .i64 (A.sd j).sel, cv, .int .i64 (A.sd j).dflt] ∧ CasesAt h cv (A.sd j).cases)
def ones : List NV → Prop := fun l => l.all NV.one = true
structure XAt (A : XA) (h : Heap) (z0 z1 z2 z3 z4 z5 z6 z7 z8 z9 : NV) : Prop where
  f : FsAt A h z0
  g : HsAt A h z1
  s : SsAt A h z2
  o : z3.one = true ∧ z4.one = true ∧ z5.one = true ∧ z6.one = true ∧ z7.one = true ∧ z8.one = true
  b : z9 = .int .i64 A.bud
  ok : A.OK
theorem FsAt.mono {A : XA} {h h' : Heap} {v : NV} (x : FsAt A h v) (o : ∀ b, b < h.length → hget h' b = hget h b) : FsAt A h' v := by
  obtain ⟨b, c, cs, ro, h1, h2, h3⟩ := x
  exact ⟨b, c, cs, ro, h1, by rw [o b (hget_lt h2)]; exact h2, h3⟩
theorem HsAt.mono {A : XA} {h h' : Heap} {v : NV} (x : HsAt A h v) (o : ∀ b, b < h.length → hget h' b = hget h b) : HsAt A h' v := by
  obtain ⟨b, c, cs, ro, h1, h2, h3⟩ := x
  refine ⟨b, c, cs, ro, h1, by rw [o b (hget_lt h2)]; exact h2, fun j hj => ?_⟩
  obtain ⟨s, b', c', cs', ro', h4, h5, h6⟩ := h3 j hj
  exact ⟨s, b', c', cs', ro', h4, by rw [o b' (hget_lt h5)]; exact h5, h6⟩
theorem CasesAt.mono {h h' : Heap} {v : NV} {ks : List XCase} (x : CasesAt h v ks) (o : ∀ b, b < h.length → hget h' b = hget h b) : CasesAt h' v ks := by
  obtain ⟨a, c, h1, h2⟩ := x
  refine ⟨a, c, h1, fun h0 => ?_⟩
  obtain ⟨b, cs, ro, h3, h4, h5⟩ := h2 h0
  exact ⟨b, cs, ro, h3, by rw [o b (hget_lt h4)]; exact h4, h5⟩
theorem SsAt.mono {A : XA} {h h' : Heap} {v : NV} (x : SsAt A h v) (o : ∀ b, b < h.length → hget h' b = hget h b) : SsAt A h' v := by
  obtain ⟨a, c, h1, h2⟩ := x
  refine ⟨a, c, h1, fun h0 => ?_⟩
  obtain ⟨b, cs, ro, h3, h4, h5⟩ := h2 h0
  refine ⟨b, cs, ro, h3, by rw [o b (hget_lt h4)]; exact h4, fun j hj => ?_⟩
  obtain ⟨cv, h6, h7⟩ := h5 j hj
  exact ⟨cv, h6, h7.mono o⟩
theorem XAt.mono {A : XA} {h h' : Heap} {z0 z1 z2 z3 z4 z5 z6 z7 z8 z9 : NV} (x : XAt A h z0 z1 z2 z3 z4 z5 z6 z7 z8 z9) (o : ∀ b, b < h.length → hget h' b = hget h b) : XAt A h' z0 z1 z2 z3 z4 z5 z6 z7 z8 z9 :=
  ⟨x.f.mono o, x.g.mono o, x.s.mono o, x.o, x.b, x.ok⟩
theorem FsAt.one {A : XA} {h : Heap} {v : NV} (x : FsAt A h v) : v.one = true := by obtain ⟨b, c, cs, ro, rfl, _⟩ := x; rfl
theorem HsAt.one {A : XA} {h : Heap} {v : NV} (x : HsAt A h v) : v.one = true := by obtain ⟨b, c, cs, ro, rfl, _⟩ := x; rfl
theorem SsAt.one {A : XA} {h : Heap} {v : NV} (x : SsAt A h v) : v.one = true := by obtain ⟨a, c, rfl, _⟩ := x; rfl
theorem CasesAt.one {h : Heap} {v : NV} {ks : List XCase} (x : CasesAt h v ks) : v.one = true := by obtain ⟨a, c, rfl, _⟩ := x; rfl
theorem XAt.ones {A : XA} {h : Heap} {z0 z1 z2 z3 z4 z5 z6 z7 z8 z9 : NV} (x : XAt A h z0 z1 z2 z3 z4 z5 z6 z7 z8 z9) :
    z0.one = true ∧ z1.one = true ∧ z2.one = true ∧ z3.one = true ∧ z4.one = true ∧ z5.one = true ∧ z6.one = true ∧ z7.one = true ∧ z8.one = true ∧ z9.one = true := by
  obtain ⟨a, b, c, d, e, f⟩ := x.o
  exact ⟨x.f.one, x.g.one, x.s.one, a, b, c, d, e, f, by rw [x.b]; rfl⟩

/-! ### The three searches -/
theorem xfield_ok {A : XA} {H : Heap} {z0 z1 z2 z3 z4 z5 z6 z7 z8 z9 : NV} (x : XAt A H z0 z1 z2 z3 z4 z5 z6 z7 z8 z9) (id : Int) : NCall Try.prog 32 [.agg [z0, z1, z2, z3, z4, z5, z6, z7, z8, z9], .int .i64 id] H fun r => r = (.int .i64 (ixI A.l id), H) := by
  obtain ⟨_, o1, o2, o3, o4, o5, o6, o7, o8, o9⟩ := x.ones
  obtain ⟨b, c, cs, ro, rfl, hb, hr⟩ := x.f
  refine fieldOf_ok H b c cs ro A.l id z1 z2 z3 z4 z5 z6 z7 z8 z9 ⟨o1, o2, o3, o4, o5, o6, o7, o8, o9⟩ hb (fun j hj => ?_) x.ok.nl
  obtain ⟨s, e⟩ := hr j hj
  exact ⟨_, _, ⟨rfl, rfl⟩, e⟩
theorem xhdr_ok {A : XA} {H : Heap} {z0 z1 z2 z3 z4 z5 z6 z7 z8 z9 : NV} (x : XAt A H z0 z1 z2 z3 z4 z5 z6 z7 z8 z9) (id : Int) : NCall Try.prog 36 [.agg [z0, z1, z2, z3, z4, z5, z6, z7, z8, z9], .int .i64 id] H fun r => r = (.int .i64 (ixI A.hl id), H) := by
  obtain ⟨o0, _, o2, o3, o4, o5, o6, o7, o8, o9⟩ := x.ones
  obtain ⟨b, c, cs, ro, rfl, hb, hr⟩ := x.g
  refine hdrOf_ok H b c cs ro A.hl id z0 z2 z3 z4 z5 z6 z7 z8 z9 ⟨o0, o2, o3, o4, o5, o6, o7, o8, o9⟩ hb (fun j hj => ?_) x.ok.nh
  obtain ⟨s, b', c', cs', ro', e, _⟩ := hr j hj
  exact ⟨_, _, ⟨rfl, rfl⟩, e⟩
theorem xstate_ok {A : XA} {H : Heap} {z0 z1 z2 z3 z4 z5 z6 z7 z8 z9 : NV} (x : XAt A H z0 z1 z2 z3 z4 z5 z6 z7 z8 z9) (id : Int) (h0 : 0 < A.sl.length) : NCall Try.prog 38 [.agg [z0, z1, z2, z3, z4, z5, z6, z7, z8, z9], .int .i64 id] H fun r => r = (.int .i64 (ixI A.sl id), H) := by
  obtain ⟨o0, o1, _, o3, o4, o5, o6, o7, o8, o9⟩ := x.ones
  obtain ⟨a, c, rfl, hs⟩ := x.s
  obtain ⟨b, cs, ro, rfl, hb, hr⟩ := hs h0
  refine stateOf_ok H b c cs ro A.sl id z0 z1 z3 z4 z5 z6 z7 z8 z9 ⟨o0, o1, o3, o4, o5, o6, o7, o8, o9⟩ hb (fun j hj => ?_) x.ok.ns
  obtain ⟨cv, e, hc⟩ := hr j hj
  exact ⟨_, _, _, _, ⟨rfl, rfl, hc.one, rfl⟩, e⟩

/-! ### The bits of a header -/
theorem ixI_mem {l : List Int} {id : Int} (h : id ∈ l) : ixI l id = (l.idxOf id : Nat) := by unfold ixI; rw [if_pos h]
theorem XA.sum_step (A : XA) {ids : List Int} {j : Nat} (hj : j < ids.length) : A.sum (ids.take (j + 1)) = A.sum (ids.take j) + A.bits ids[j] := by
  unfold XA.sum
  rw [List.take_add_one, List.getElem?_eq_getElem hj, List.map_append, List.sum_append]
  simp
theorem XA.sum_le (A : XA) (ids : List Int) (j : Nat) : A.sum (ids.take j) ≤ A.sum ids := by
  have h : A.sum ids = A.sum (ids.take j) + A.sum (ids.drop j) := by
    unfold XA.sum
    rw [← List.sum_append, ← List.map_append, List.take_append_drop]
  omega
theorem map_get {ids : List Int} {j : Nat} (hj : j < ids.length) : (ids.map (NV.int .i64))[j]? = some (.int .i64 ids[j]) := by
  rw [List.getElem?_map, List.getElem?_eq_getElem hj]; rfl

set_option maxHeartbeats 1000000 in
theorem bitsOf_ok {A : XA} {H : Heap} {z0 z1 z2 z3 z4 z5 z6 z7 z8 z9 : NV} (x : XAt A H z0 z1 z2 z3 z4 z5 z6 z7 z8 z9) (id : Int) (s : ByteArray) (ids : List Int) (b : Nat) (c : Cap) (cs : List NV) (ro : Bool) (hb : hget H b = some (.cells cs ro)) (hcs : ∀ i (hi : i < ids.length), cs[i]? = some (.int .i64 ids[i]))
    (hl : ids.length ≤ 100) (hm : ∀ i ∈ ids, i ∈ A.l) (hs : A.sum ids ≤ 10000) :
    NCall Try.prog 55 [.agg [z0, z1, z2, z3, z4, z5, z6, z7, z8, z9], .agg [.int .i64 id, .str s, .slice (some (b, 0)) ids.length c]] H fun r => r = (.int .i64 (A.sum ids), H) := by
  obtain ⟨o0, o1, o2, o3, o4, o5, o6, o7, o8, o9⟩ := x.ones
  have hbl := hget_some_lt hb
  refine call_pure E0 mixed t55_ok (by kernel_rfl) trivial ?_
  simp only [t55]
  simp (disch := first | omega | (simp only [fsLen]; omega)) only [↓fsPre, fsPost, fsCond, fsGen, fsDefs, fsDefX, cls, eqVal, reduceCtorEq, Nat.reduceAdd, Nat.reduceMul, Nat.reduceSub, Nat.reduceLT, Nat.reduceLeDiff, Nat.reduceEqDiff, Nat.reduceBEq, Nat.reduceBNe, Int.reduceLT, Int.reduceLE, Int.reduceEq, Int.reduceNe, Int.reduceAdd, Int.reduceSub, Int.reduceNeg, Int.reduceToNat, Int.reduceMul, ↓reduceIte, Int.reduceGT, Int.reduceGE, o0, o1, o2, o3, o4, o5, o6, o7, o8, o9]
  refine wloop (fun j F h => F 2 = .ptr (some (H.length, 0)) ∧ F 3 = .ptr (some (H.length + 1, 0)) ∧ F 5 = .int .i64 (A.sum (ids.take j)) ∧ F 9 = .slice (some (b, 0)) ids.length c ∧ F 10 = .int .i64 ids.length ∧ F 11 = .int .i64 j ∧
    h = H ++ [some (.cells [z0, z1, z2, z3, z4, z5, z6, z7, z8, z9] false), some (.cells [.int .i64 id, .str s, .slice (some (b, 0)) ids.length c] false)]) ids.length ?_ ?_ ?_
  · simp (disch := first | omega | (simp only [fsLen]; omega)) only [↓fsPre, fsPost, fsCond, fsGen, fsDefs, fsDefX, cls, eqVal, reduceCtorEq, Nat.reduceAdd, Nat.reduceMul, Nat.reduceSub, Nat.reduceLT, Nat.reduceLeDiff, Nat.reduceEqDiff, Nat.reduceBEq, Nat.reduceBNe, Int.reduceLT, Int.reduceLE, Int.reduceEq, Int.reduceNe, Int.reduceAdd, Int.reduceSub, Int.reduceNeg, Int.reduceToNat, Int.reduceMul, ↓reduceIte, Int.reduceGT, Int.reduceGE]
    rfl
  · rintro j F h hj ⟨f2, f3, f5, f9, f10, f11, rfl⟩
    have hg := hcs j hj
    have hmem := hm _ (List.getElem_mem hj)
    have hix := ixI_mem hmem
    have hlt := List.idxOf_lt_length_of_mem hmem
    have hst := A.sum_step hj
    have hle := A.sum_le ids j
    have hle' := A.sum_le ids (j + 1)
    have hwd : A.bits ids[j] = A.w (A.l.idxOf ids[j]) := rfl
    have x' : XAt A (H ++ [some (.cells [z0, z1, z2, z3, z4, z5, z6, z7, z8, z9] false), some (.cells [.int .i64 id, .str s, .slice (some (b, 0)) ids.length c] false)]) z0 z1 z2 z3 z4 z5 z6 z7 z8 z9 := x.mono fun b hb => hget_appl hb
    obtain ⟨b1, c1, cs1, ro1, rfl, hb1, hr1⟩ := x.f
    obtain ⟨s1, hc⟩ := hr1 _ hlt
    have hb1l := hget_some_lt hb1
    have hcell := fun k hk => cut_get (i := k) hc hk
    have h2 := hcell 2 (by omega)
    simp (disch := first | omega | (simp only [fsLen]; omega)) only [↓fsPre, fsPost, fsCond, fsGen, fsDefs, fsDefX, cls, eqVal, reduceCtorEq, Nat.reduceAdd, Nat.reduceMul, Nat.reduceSub, Nat.reduceLT, Nat.reduceLeDiff, Nat.reduceEqDiff, Nat.reduceBEq, Nat.reduceBNe, Int.reduceLT, Int.reduceLE, Int.reduceEq, Int.reduceNe, Int.reduceAdd, Int.reduceSub, Int.reduceNeg, Int.reduceToNat, Int.reduceMul, ↓reduceIte, Int.reduceGT, Int.reduceGE, f2, f3, f5, f9, f10, f11, hb, hg, o1, o2, o3, o4, o5, o6, o7, o8, o9]
    refine callDT_one (xfield_ok x' _) rfl ?_
    simp (disch := first | omega | (simp only [fsLen]; omega)) only [↓fsPre, fsPost, fsCond, fsGen, fsDefs, fsDefX, cls, eqVal, reduceCtorEq, Nat.reduceAdd, Nat.reduceMul, Nat.reduceSub, Nat.reduceLT, Nat.reduceLeDiff, Nat.reduceEqDiff, Nat.reduceBEq, Nat.reduceBNe, Int.reduceLT, Int.reduceLE, Int.reduceEq, Int.reduceNe, Int.reduceAdd, Int.reduceSub, Int.reduceNeg, Int.reduceToNat, Int.reduceMul, ↓reduceIte, Int.reduceGT, Int.reduceGE, f2, f3, f5, f9, f10, f11, hb, hg, hix, hb1, h2, o1, o2, o3, o4, o5, o6, o7, o8, o9]
    rw [hst, hwd]; push_cast; rfl
  · rintro F h ⟨f2, f3, f5, f9, f10, f11, rfl⟩
    simp (disch := first | omega | (simp only [fsLen]; omega)) only [↓fsPre, fsPost, fsCond, fsGen, fsDefs, fsDefX, cls, eqVal, reduceCtorEq, Nat.reduceAdd, Nat.reduceMul, Nat.reduceSub, Nat.reduceLT, Nat.reduceLeDiff, Nat.reduceEqDiff, Nat.reduceBEq, Nat.reduceBNe, Int.reduceLT, Int.reduceLE, Int.reduceEq, Int.reduceNe, Int.reduceAdd, Int.reduceSub, Int.reduceNeg, Int.reduceToNat, Int.reduceMul, ↓reduceIte, Int.reduceGT, Int.reduceGE, f2, f3, f5, f9, f10, f11]
    exact ⟨by rw [List.take_length], _, rfl⟩

/-- Bits of a packet, the highest of a byte first. -/
def bitAt (d : Nat → BitVec 8) (k : Nat) : Bool := (d (k / 8)).getLsbD (7 - k % 8)
def takeV (d : Nat → BitVec 8) (nx : Nat) : Nat → BitVec 128
  | 0 => 0#128
  | n + 1 => takeV d nx n <<< 1 ||| if bitAt d (nx + n) then 1#128 else 0#128
theorem hi_zero : hiOf 0#128 = 0#64 := by decide
theorem lo_zero : loOf 0#128 = 0#64 := by decide
theorem bit_and (x : BitVec 8) (s : Nat) : x >>> s &&& 1#8 = if x.getLsbD s then 1#8 else 0#8 := by
  apply BitVec.eq_of_getLsbD_eq
  intro i hi
  rw [BitVec.getLsbD_and, BitVec.getLsbD_ushiftRight, BitVec.getLsbD_one]
  by_cases h0 : i = 0
  · subst h0
    cases h : x.getLsbD s <;> simp [h]
  · cases h : x.getLsbD s <;> simp [h0, h]
theorem ofV_bit (b : Bool) : ofV ((if b then 1#8 else 0#8 : BitVec 8).toNat : Int) = if b then 1#128 else 0#128 := by cases b <;> rfl
def cxCells (vF vV vR : NV) (st : Int) : List NV := [vF, vV, vR, .int .i64 st, .bool false]

set_option maxHeartbeats 1000000 in
theorem take_ok (H : Heap) (q1 q2 p bR o m nR n nx : Nat) (c : Cap) (ro : Bool) (vF vV : NV) (st : Int) (d : Nat → BitVec 8)
    (h1 : hget H q1 = some (.cells [.ptr (some (p, 0))] false)) (h2 : hget H q2 = some (.cells [.int .i64 nx] false)) (hp : hget H p = some (.cells (cxCells vF vV (.slice (some (bR, o)) m c) st) false)) (hR : hget H bR = some (.cells (arrC nR fun i => n8 (d i)) ro))
    (n1 : q2 ≠ q1) (n2 : q2 ≠ p) (n3 : q2 ≠ bR) (hm : o + m ≤ nR) (hn : nx + n ≤ 8 * m) (hN : nR ≤ 10000) :
    NCall Try.prog 56 [.int .i64 n, .ptr (some (q1, 0)), .ptr (some (q2, 0))] H fun r => r = (vnv (takeV (fun i => d (o + i)) nx n), hset H q2 (.cells [.int .i64 (nx + n)] false)) := by
  have l1 := hget_some_lt h1
  have l2 := hget_some_lt h2
  have lp := hget_some_lt hp
  have lR := hget_some_lt hR
  refine call_mod E0 mixed t56_ok _ _ (by kernel_rfl) (by rw [length_hset]) vnv_lo ?_ ?_
  · intro b x hx
    rcases hget_hset_or hx with h | rfl
    · exact .inl h
    · exact .inr ⟨trivial, trivial⟩
  have hl := fun H v => left_ok H v 1 (by omega)
  have ho := fun H a b => or_ok H a b
  have hof := fun H k h => of_ok H k h
  simp only [t56, vnv] at hl ho hof ⊢
  simp (disch := first | omega | (simp only [fsLen]; omega)) only [↓fsPre, fsPost, fsCond, fsGen, fsDefs, cls, eqVal, vbGen, fill_bits, reduceCtorEq, Nat.reduceAdd, Nat.reduceMul, Nat.reduceSub, Nat.reduceLT, Nat.reduceLeDiff, Nat.reduceEqDiff, Nat.reduceBEq, Nat.reduceBNe, Int.reduceLT, Int.reduceLE, Int.reduceEq, Int.reduceNe, Int.reduceAdd, Int.reduceSub, Int.reduceNeg, Int.reduceToNat, Int.reduceMul, ↓reduceIte, Int.reduceGT, Int.reduceGE]
  refine wloop (fun j F h => F 0 = .int .i64 n ∧ F 1 = .ptr (some (q1, 0)) ∧ F 2 = .ptr (some (q2, 0)) ∧ F 4 = .ptr (some (H.length, 0)) ∧ F 5 = .ptr (some (H.length + 1, 0)) ∧ F 7 = .int .i64 n ∧ F 8 = .int .i64 j ∧
    h = hset H q2 (.cells [.int .i64 (nx + j : Nat)] false) ++ [some (.cells [nb 0#64, nb 0#64] false), some (.cells [nb (hiOf (takeV (fun i => d (o + i)) nx j)), nb (loOf (takeV (fun i => d (o + i)) nx j))] false)]) n ?_ ?_ ?_
  · simp (disch := first | omega | (simp only [fsLen]; omega)) only [↓fsPre, fsPost, fsCond, fsGen, fsDefs, cls, eqVal, vbGen, fill_bits, reduceCtorEq, Nat.reduceAdd, Nat.reduceMul, Nat.reduceSub, Nat.reduceLT, Nat.reduceLeDiff, Nat.reduceEqDiff, Nat.reduceBEq, Nat.reduceBNe, Int.reduceLT, Int.reduceLE, Int.reduceEq, Int.reduceNe, Int.reduceAdd, Int.reduceSub, Int.reduceNeg, Int.reduceToNat, Int.reduceMul, ↓reduceIte, Int.reduceGT, Int.reduceGE, nb_zero]
    rw [hset_same h2]
    simp only [takeV, hi_zero, lo_zero]
  · rintro j F h hj ⟨f0, f1, f2, f4, f5, f7, f8, rfl⟩
    have d1 : Int.tdiv ((nx + j : Nat) : Int) 8 = (((nx + j) / 8 : Nat) : Int) := by rw [Int.tdiv_eq_ediv_of_nonneg (by omega)]; omega
    have d2 : Int.tmod ((nx + j : Nat) : Int) 8 = (((nx + j) % 8 : Nat) : Int) := by rw [Int.tmod_eq_emod_of_nonneg (by omega)]; omega
    have d3 : (7 : Int) - (((nx + j) % 8 : Nat) : Int) = ((7 - (nx + j) % 8 : Nat) : Int) := by omega
    generalize hk : nx + j = k at *
    have hR' : (arrC nR fun i => n8 (d i))[o + k / 8]? = some (n8 (d (o + k / 8))) := arrC_get (by omega)
    have hsh := n8_shr (x := d (o + k / 8)) (k := .u64) (b := ((7 - k % 8 : Nat) : Int)) (by omega)
    rw [Int.toNat_natCast] at hsh
    have han := n8_and_c (x := d (o + k / 8) >>> (7 - k % 8)) (c := 1)
    rw [show BitVec.ofInt 8 1 = 1#8 by decide, bit_and] at han
    simp (disch := first | omega | (simp only [fsLen]; omega)) only [↓fsPre, fsPost, fsCond, fsGen, fsDefs, cls, eqVal, vbGen, fill_bits, reduceCtorEq, Nat.reduceAdd, Nat.reduceMul, Nat.reduceSub, Nat.reduceLT, Nat.reduceLeDiff, Nat.reduceEqDiff, Nat.reduceBEq, Nat.reduceBNe, Int.reduceLT, Int.reduceLE, Int.reduceEq, Int.reduceNe, Int.reduceAdd, Int.reduceSub, Int.reduceNeg, Int.reduceToNat, Int.reduceMul, ↓reduceIte, Int.reduceGT, Int.reduceGE, f0, f1, f2, f4, f5, f7, f8, h1, h2, hp, hR, cxCells, hR', d1, d2, d3, hsh, han, n8_one, n8_flat]
    refine callT_one (hl _ _) rfl ?_
    simp (disch := first | omega | (simp only [fsLen]; omega)) only [↓fsPre, fsPost, fsCond, fsGen, fsDefs, cls, eqVal, vbGen, fill_bits, reduceCtorEq, Nat.reduceAdd, Nat.reduceMul, Nat.reduceSub, Nat.reduceLT, Nat.reduceLeDiff, Nat.reduceEqDiff, Nat.reduceBEq, Nat.reduceBNe, Int.reduceLT, Int.reduceLE, Int.reduceEq, Int.reduceNe, Int.reduceAdd, Int.reduceSub, Int.reduceNeg, Int.reduceToNat, Int.reduceMul, ↓reduceIte, Int.reduceGT, Int.reduceGE, f0, f1, f2, f4, f5, f7, f8, n8_conv64]
    refine callT_one (hof _ _ (by have := (if (d (o + k / 8)).getLsbD (7 - k % 8) = true then 1#8 else 0#8 : BitVec 8).isLt; omega)) rfl ?_
    rw [ofV_bit]
    simp (disch := first | omega | (simp only [fsLen]; omega)) only [↓fsPre, fsPost, fsCond, fsGen, fsDefs, cls, eqVal, vbGen, fill_bits, reduceCtorEq, Nat.reduceAdd, Nat.reduceMul, Nat.reduceSub, Nat.reduceLT, Nat.reduceLeDiff, Nat.reduceEqDiff, Nat.reduceBEq, Nat.reduceBNe, Int.reduceLT, Int.reduceLE, Int.reduceEq, Int.reduceNe, Int.reduceAdd, Int.reduceSub, Int.reduceNeg, Int.reduceToNat, Int.reduceMul, ↓reduceIte, Int.reduceGT, Int.reduceGE, f0, f1, f2, f4, f5, f7, f8]
    refine callT_one (ho _ _ _) rfl ?_
    simp (disch := first | omega | (simp only [fsLen]; omega)) only [↓fsPre, fsPost, fsCond, fsGen, fsDefs, cls, eqVal, vbGen, fill_bits, reduceCtorEq, Nat.reduceAdd, Nat.reduceMul, Nat.reduceSub, Nat.reduceLT, Nat.reduceLeDiff, Nat.reduceEqDiff, Nat.reduceBEq, Nat.reduceBNe, Int.reduceLT, Int.reduceLE, Int.reduceEq, Int.reduceNe, Int.reduceAdd, Int.reduceSub, Int.reduceNeg, Int.reduceToNat, Int.reduceMul, ↓reduceIte, Int.reduceGT, Int.reduceGE, f0, f1, f2, f4, f5, f7, f8]
    have e1 : takeV (fun i => d (o + i)) nx (j + 1) = takeV (fun i => d (o + i)) nx j <<< 1 ||| if (d (o + k / 8)).getLsbD (7 - k % 8) = true then 1#128 else 0#128 := by
      simp only [takeV, bitAt, hk]
    have e2 : (nx : Int) + ((j : Int) + 1) = (k : Int) + 1 := by omega
    rw [e1, e2]
  · rintro F h ⟨f0, f1, f2, f4, f5, f7, f8, rfl⟩
    simp (disch := first | omega | (simp only [fsLen]; omega)) only [↓fsPre, fsPost, fsCond, fsGen, fsDefs, cls, eqVal, vbGen, fill_bits, reduceCtorEq, Nat.reduceAdd, Nat.reduceMul, Nat.reduceSub, Nat.reduceLT, Nat.reduceLeDiff, Nat.reduceEqDiff, Nat.reduceBEq, Nat.reduceBNe, Int.reduceLT, Int.reduceLE, Int.reduceEq, Int.reduceNe, Int.reduceAdd, Int.reduceSub, Int.reduceNeg, Int.reduceToNat, Int.reduceMul, ↓reduceIte, Int.reduceGT, Int.reduceGE, f0, f1, f2, f4, f5, f7, f8]
    exact ⟨_, rfl⟩

def vcell (v : BitVec 128) : List NV := [nb (hiOf v), nb (loOf v)]
theorem vcell_length (v : BitVec 128) : (vcell v).length = 2 := rfl
def vals (l : List (BitVec 128)) : List NV := l.flatMap vcell
theorem vals_length (l : List (BitVec 128)) : (vals l).length = l.length * 2 := length_flatMap_enc vcell_length l
theorem vals_cut {l : List (BitVec 128)} {i : Nat} (hi : i < l.length) : cut (vals l) (i * 2) 2 = some [nb (hiOf l[i]), nb (loOf l[i])] := cut_flatMap vcell_length hi
theorem vals_set {l : List (BitVec 128)} {i : Nat} {v : BitVec 128} (hi : i < l.length) : splice (vals l) (i * 2) [nb (hiOf v), nb (loOf v)] = vals (l.set i v) := by
  unfold splice vals
  rw [take_flatMap vcell_length, List.set_eq_take_append_cons_drop, if_pos hi, List.flatMap_append, List.flatMap_cons]
  show _ ++ (vcell v ++ _) = _
  congr 2
  show (l.flatMap vcell).drop (i * 2 + 2) = _
  rw [show i * 2 + 2 = (i + 1) * 2 by omega, drop_flatMap vcell_length]
theorem vals_lo {l : List (BitVec 128)} {n : Nat} : NV.lows n (vals l) := by
  induction l with
  | nil => trivial
  | cons a l ih => exact ⟨trivial, trivial, ih⟩
def bools (l : List Bool) : List NV := l.map .bool
theorem bools_length (l : List Bool) : (bools l).length = l.length := by simp [bools]
theorem bools_get {l : List Bool} {i : Nat} (hi : i < l.length) : (bools l)[i]? = some (.bool l[i]) := by simp [bools, hi]
theorem bools_set {l : List Bool} {i : Nat} {b : Bool} (hi : i < l.length) : splice (bools l) i [.bool b] = bools (l.set i b) := by
  unfold splice bools
  rw [List.set_eq_take_append_cons_drop, if_pos hi, List.map_append, List.map_cons, List.map_take, List.map_drop]
  rfl
theorem bools_lo {l : List Bool} {n : Nat} : NV.lows n (bools l) := by
  induction l with
  | nil => trivial
  | cons a l ih => exact ⟨trivial, ih⟩

def XA.step (A : XA) (d : Nat → BitVec 8) (s : List (BitVec 128) × Nat) (id : Int) : List (BitVec 128) × Nat := (s.1.set (A.l.idxOf id) (takeV d s.2 (A.bits id)), s.2 + A.bits id)
def XA.run (A : XA) (d : Nat → BitVec 8) (fl : List (BitVec 128)) (ids : List Int) : List (BitVec 128) × Nat := ids.foldl (A.step d) (fl, 0)
theorem XA.run_step (A : XA) (d : Nat → BitVec 8) (fl : List (BitVec 128)) {ids : List Int} {j : Nat} (hj : j < ids.length) : A.run d fl (ids.take (j + 1)) = A.step d (A.run d fl (ids.take j)) ids[j] := by
  unfold XA.run
  rw [List.take_add_one, List.getElem?_eq_getElem hj, List.foldl_append]; rfl
theorem XA.run_2 (A : XA) (d : Nat → BitVec 8) (fl : List (BitVec 128)) (ids : List Int) : ∀ j, j ≤ ids.length → (A.run d fl (ids.take j)).2 = A.sum (ids.take j)
  | 0, _ => rfl
  | j + 1, h => by rw [A.run_step d fl (by omega), A.sum_step (by omega)]; show (A.run d fl (ids.take j)).2 + _ = _; rw [A.run_2 d fl ids j (by omega)]
theorem XA.run_len (A : XA) (d : Nat → BitVec 8) (fl : List (BitVec 128)) (ids : List Int) : ∀ j, j ≤ ids.length → (A.run d fl (ids.take j)).1.length = fl.length
  | 0, _ => rfl
  | j + 1, h => by rw [A.run_step d fl (by omega)]; show ((A.run d fl (ids.take j)).1.set _ _).length = _; rw [List.length_set, A.run_len d fl ids j (by omega)]

set_option maxHeartbeats 4000000 in
theorem header_ok {A : XA} {H0 : Heap} {z0 z1 z2 z3 z4 z5 z6 z7 z8 z9 : NV} (x : XAt A H0 z0 z1 z2 z3 z4 z5 z6 z7 z8 z9) (H : Heap) (old : ∀ b, b < H0.length → hget H b = hget H0 b)
    (p bF bV bR o nR k : Nat) (cF cV : Cap) (st : Int) (fl : List (BitVec 128)) (vl : List Bool) (d : Nat → BitVec 8) (gp : H0.length ≤ p) (gF : H0.length ≤ bF) (gV : H0.length ≤ bV) (gR : H0.length ≤ bR)
    (n1 : p ≠ bF) (n2 : p ≠ bV) (n3 : bF ≠ bV) (n4 : bR ≠ p) (n5 : bR ≠ bF) (n6 : bR ≠ bV)
    (hp : hget H p = some (.cells (cxCells (.slice (some (bF, 0)) A.l.length cF) (.slice (some (bV, 0)) A.hl.length cV) (.slice (some (bR, o)) (nR - o) (.opn 1)) st) false))
    (hF : hget H bF = some (.cells (vals fl) false)) (hV : hget H bV = some (.cells (bools vl) false)) (hR : hget H bR = some (.cells (arrC nR fun i => n8 (d i)) false)) (lF : fl.length = A.l.length) (lV : vl.length = A.hl.length)
    (hk : k < A.hl.length) (ho : o ≤ nR) (hN : nR ≤ 1000) (hsz : A.sum (A.hf k) / 8 ≤ nR - o) :
    NCall Try.prog 35 [.agg [z0, z1, z2, z3, z4, z5, z6, z7, z8, z9], .ptr (some (p, 0)), .int .i64 k] H fun r => r = (.bool true,
      hset (hset (hset H bF (.cells (vals (A.run (fun i => d (o + i)) fl (A.hf k)).1) false)) bV (.cells (bools (vl.set k true)) false)) p
        (.cells (cxCells (.slice (some (bF, 0)) A.l.length cF) (.slice (some (bV, 0)) A.hl.length cV) (.slice (some (bR, o + A.sum (A.hf k) / 8)) (nR - o - A.sum (A.hf k) / 8) (.opn 1)) st) false)) := by
  obtain ⟨o0, o1, o2, o3, o4, o5, o6, o7, o8, o9⟩ := x.ones
  have lp := hget_some_lt hp
  have lF' := hget_some_lt hF
  have lV' := hget_some_lt hV
  have lR := hget_some_lt hR
  obtain ⟨hl, hm, hs0, hs1, hs8⟩ := x.ok.hf k hk
  obtain ⟨bH, cH, csH, roH, rfl, hH, hrH⟩ := x.g
  obtain ⟨s, bI, cI, csI, roI, hcI, hI, hIc⟩ := hrH k hk
  have lH := hget_some_lt hH
  have lI := hget_some_lt hI
  have h0 : H0.length ≤ H.length := by
    rcases Nat.lt_or_ge H.length H0.length with h | h
    · exfalso; omega
    · exact h
  have hH' := (old _ lH).trans hH
  have hI' := (old _ lI).trans hI
  refine call_mod E0 mixed t35_ok _ _ (by kernel_rfl) (by simp only [length_hset]) trivial ?_ ?_
  · intro b y hy
    rcases hget_hset_or hy with hy | rfl
    · rcases hget_hset_or hy with hy | rfl
      · rcases hget_hset_or hy with hy | rfl
        · exact .inl hy
        · exact .inr vals_lo
      · exact .inr bools_lo
    · exact .inr ⟨lF', lV', lR, trivial, trivial, trivial⟩
  have xm := fun h (e : ∀ b, b < H0.length → hget h b = hget H0 b) => x.mono (h' := h) e
  have hb := fun h e hI => bitsOf_ok (xm h e) A.hl[k] s (A.hf k) bI cI csI roI hI hIc hl hm hs1
  have hfi := fun h e id => xfield_ok (xm h e) id
  have dq : Int.tdiv ((A.sum (A.hf k) : Nat) : Int) 8 = ((A.sum (A.hf k) / 8 : Nat) : Int) := by rw [Int.tdiv_eq_ediv_of_nonneg (by omega)]; omega
  have hh := fun i hi => cut_get (i := i) hcI hi
  have hh2 := hh 2 (by omega)
  have hlen : ((nR - o : Nat) : Int) = (nR : Int) - o := by omega
  simp only [t35, cxCells]
  unfold cxCells at hp
  simp (disch := first | omega | (simp only [fsLen]; omega)) only [↓fsPre, fsPost, fsCond, fsGen, fsDefs, fsDefX, cls, eqVal, reduceCtorEq, Nat.reduceAdd, Nat.reduceMul, Nat.reduceSub, Nat.reduceLT, Nat.reduceLeDiff, Nat.reduceEqDiff, Nat.reduceBEq, Nat.reduceBNe, Int.reduceLT, Int.reduceLE, Int.reduceEq, Int.reduceNe, Int.reduceAdd, Int.reduceSub, Int.reduceNeg, Int.reduceToNat, Int.reduceMul, ↓reduceIte, Int.reduceGT, Int.reduceGE, o0, o2, o3, o4, o5, o6, o7, o8, o9, hH', hcI]
  refine callT_one (hb _ (fun b hb => by simp (disch := first | omega | (simp only [fsLen]; omega)) only [↓fsPre, fsPost, fsCond, fsGen, fsDefs, fsDefX, cls, eqVal, reduceCtorEq, Nat.reduceAdd, Nat.reduceMul, Nat.reduceSub, Nat.reduceLT, Nat.reduceLeDiff, Nat.reduceEqDiff, Nat.reduceBEq, Nat.reduceBNe, Int.reduceLT, Int.reduceLE, Int.reduceEq, Int.reduceNe, Int.reduceAdd, Int.reduceSub, Int.reduceNeg, Int.reduceToNat, Int.reduceMul, ↓reduceIte, Int.reduceGT, Int.reduceGE]; exact old b hb) (by simp (disch := first | omega | (simp only [fsLen]; omega)) only [↓fsPre, fsPost, fsCond, fsGen, fsDefs, fsDefX, cls, eqVal, reduceCtorEq, Nat.reduceAdd, Nat.reduceMul, Nat.reduceSub, Nat.reduceLT, Nat.reduceLeDiff, Nat.reduceEqDiff, Nat.reduceBEq, Nat.reduceBNe, Int.reduceLT, Int.reduceLE, Int.reduceEq, Int.reduceNe, Int.reduceAdd, Int.reduceSub, Int.reduceNeg, Int.reduceToNat, Int.reduceMul, ↓reduceIte, Int.reduceGT, Int.reduceGE, hI'])) rfl ?_
  simp (disch := first | omega | (simp only [fsLen]; omega)) only [↓fsPre, fsPost, fsCond, fsGen, fsDefs, fsDefX, cls, eqVal, reduceCtorEq, Nat.reduceAdd, Nat.reduceMul, Nat.reduceSub, Nat.reduceLT, Nat.reduceLeDiff, Nat.reduceEqDiff, Nat.reduceBEq, Nat.reduceBNe, Int.reduceLT, Int.reduceLE, Int.reduceEq, Int.reduceNe, Int.reduceAdd, Int.reduceSub, Int.reduceNeg, Int.reduceToNat, Int.reduceMul, ↓reduceIte, Int.reduceGT, Int.reduceGE, dq, hp]
  refine wloop (fun j F h => F 2 = .int .i64 k ∧ F 3 = .ptr (some (H.length, 0)) ∧ F 4 = .ptr (some (H.length + 1, 0)) ∧ F 7 = .ptr (some (H.length + 2, 0)) ∧ F 8 = .int .i64 (A.sum (A.hf k) / 8 : Nat) ∧
    F 10 = .func (.func 56) [] [.ptr (some (H.length + 1, 0)), .ptr (some (H.length + 3, 0))] ∧ F 32 = .slice (some (bI, 0)) (A.hf k).length cI ∧ F 33 = .int .i64 (A.hf k).length ∧ F 34 = .int .i64 j ∧
    h = hset H bF (.cells (vals (A.run (fun i => d (o + i)) fl ((A.hf k).take j)).1) false) ++ [some (.cells [z0, .slice (some (bH, 0)) A.hl.length cH, z2, z3, z4, z5, z6, z7, z8, z9] false), some (.cells [.ptr (some (p, 0))] false), some (.cells [.int .i64 A.hl[k], .str s, .slice (some (bI, 0)) (A.hf k).length cI] false), some (.cells [.int .i64 (A.sum ((A.hf k).take j))] false)]) (A.hf k).length ?_ ?_ ?_
  · simp (disch := first | omega | (simp only [fsLen]; omega)) only [↓fsPre, fsPost, fsCond, fsGen, fsDefs, fsDefX, cls, eqVal, reduceCtorEq, Nat.reduceAdd, Nat.reduceMul, Nat.reduceSub, Nat.reduceLT, Nat.reduceLeDiff, Nat.reduceEqDiff, Nat.reduceBEq, Nat.reduceBNe, Int.reduceLT, Int.reduceLE, Int.reduceEq, Int.reduceNe, Int.reduceAdd, Int.reduceSub, Int.reduceNeg, Int.reduceToNat, Int.reduceMul, ↓reduceIte, Int.reduceGT, Int.reduceGE]
    rw [show (A.run (fun i => d (o + i)) fl []).1 = fl from rfl, hset_same hF]
    rfl
  · rintro j F h hj ⟨f2, f3, f4, f7, f8, f10, f32, f33, f34, rfl⟩
    have hg := hIc j hj
    have hmem := hm _ (List.getElem_mem hj)
    have hix := ixI_mem hmem
    have hlt := List.idxOf_lt_length_of_mem hmem
    have hst := A.sum_step hj
    have hle := A.sum_le (A.hf k) j
    have hle' := A.sum_le (A.hf k) (j + 1)
    have hwd : A.bits (A.hf k)[j] = A.w (A.l.idxOf (A.hf k)[j]) := rfl
    have hr2 := A.run_2 (fun i => d (o + i)) fl (A.hf k) j (by omega)
    have hrl := A.run_len (fun i => d (o + i)) fl (A.hf k) j (by omega)
    have hrs := A.run_step (fun i => d (o + i)) fl hj
    generalize hrun : A.run (fun i => d (o + i)) fl ((A.hf k).take j) = rr at *
    obtain ⟨b1, c1, cs1, ro1, rfl, hb1, hr1⟩ := x.f
    obtain ⟨s1, hc⟩ := hr1 _ hlt
    have hb1l := hget_some_lt hb1
    have hb1' := (old _ hb1l).trans hb1
    have hcell := fun k hk => cut_get (i := k) hc hk
    have h2 := hcell 2 (by omega)
    simp (disch := first | omega | (simp only [fsLen]; omega)) only [↓fsPre, fsPost, fsCond, fsGen, fsDefs, fsDefX, cls, eqVal, reduceCtorEq, Nat.reduceAdd, Nat.reduceMul, Nat.reduceSub, Nat.reduceLT, Nat.reduceLeDiff, Nat.reduceEqDiff, Nat.reduceBEq, Nat.reduceBNe, Int.reduceLT, Int.reduceLE, Int.reduceEq, Int.reduceNe, Int.reduceAdd, Int.reduceSub, Int.reduceNeg, Int.reduceToNat, Int.reduceMul, ↓reduceIte, Int.reduceGT, Int.reduceGE, f2, f3, f4, f7, f8, f10, f32, f33, f34, hI', hg, o0, o2, o3, o4, o5, o6, o7, o8, o9]
    refine callT_one (hfi _ (fun b hb => by simp (disch := first | omega | (simp only [fsLen]; omega)) only [↓fsPre, fsPost, fsCond, fsGen, fsDefs, fsDefX, cls, eqVal, reduceCtorEq, Nat.reduceAdd, Nat.reduceMul, Nat.reduceSub, Nat.reduceLT, Nat.reduceLeDiff, Nat.reduceEqDiff, Nat.reduceBEq, Nat.reduceBNe, Int.reduceLT, Int.reduceLE, Int.reduceEq, Int.reduceNe, Int.reduceAdd, Int.reduceSub, Int.reduceNeg, Int.reduceToNat, Int.reduceMul, ↓reduceIte, Int.reduceGT, Int.reduceGE]; exact old b hb) _) rfl ?_
    simp (disch := first | omega | (simp only [fsLen]; omega)) only [↓fsPre, fsPost, fsCond, fsGen, fsDefs, fsDefX, cls, eqVal, reduceCtorEq, Nat.reduceAdd, Nat.reduceMul, Nat.reduceSub, Nat.reduceLT, Nat.reduceLeDiff, Nat.reduceEqDiff, Nat.reduceBEq, Nat.reduceBNe, Int.reduceLT, Int.reduceLE, Int.reduceEq, Int.reduceNe, Int.reduceAdd, Int.reduceSub, Int.reduceNeg, Int.reduceToNat, Int.reduceMul, ↓reduceIte, Int.reduceGT, Int.reduceGE, f2, f3, f4, f7, f8, f10, f32, f33, f34, hix, hb1', h2, hp, o0, o2, o3, o4, o5, o6, o7, o8, o9]
    refine callDT_one (take_ok _ (H.length + 1) (H.length + 3) p bR o (nR - o) nR (A.w (A.l.idxOf (A.hf k)[j])) (A.sum ((A.hf k).take j)) (.opn 1) false (.slice (some (bF, 0)) A.l.length cF) (.slice (some (bV, 0)) A.hl.length cV) st d (by simp (disch := first | omega | (simp only [fsLen]; omega)) only [↓fsPre, fsPost, fsCond, fsGen, fsDefs, fsDefX, cls, eqVal, reduceCtorEq, Nat.reduceAdd, Nat.reduceMul, Nat.reduceSub, Nat.reduceLT, Nat.reduceLeDiff, Nat.reduceEqDiff, Nat.reduceBEq, Nat.reduceBNe, Int.reduceLT, Int.reduceLE, Int.reduceEq, Int.reduceNe, Int.reduceAdd, Int.reduceSub, Int.reduceNeg, Int.reduceToNat, Int.reduceMul, ↓reduceIte, Int.reduceGT, Int.reduceGE]) (by simp (disch := first | omega | (simp only [fsLen]; omega)) only [↓fsPre, fsPost, fsCond, fsGen, fsDefs, fsDefX, cls, eqVal, reduceCtorEq, Nat.reduceAdd, Nat.reduceMul, Nat.reduceSub, Nat.reduceLT, Nat.reduceLeDiff, Nat.reduceEqDiff, Nat.reduceBEq, Nat.reduceBNe, Int.reduceLT, Int.reduceLE, Int.reduceEq, Int.reduceNe, Int.reduceAdd, Int.reduceSub, Int.reduceNeg, Int.reduceToNat, Int.reduceMul, ↓reduceIte, Int.reduceGT, Int.reduceGE]) (by simp (disch := first | omega | (simp only [fsLen]; omega)) only [↓fsPre, fsPost, fsCond, fsGen, fsDefs, fsDefX, cls, eqVal, reduceCtorEq, Nat.reduceAdd, Nat.reduceMul, Nat.reduceSub, Nat.reduceLT, Nat.reduceLeDiff, Nat.reduceEqDiff, Nat.reduceBEq, Nat.reduceBNe, Int.reduceLT, Int.reduceLE, Int.reduceEq, Int.reduceNe, Int.reduceAdd, Int.reduceSub, Int.reduceNeg, Int.reduceToNat, Int.reduceMul, ↓reduceIte, Int.reduceGT, Int.reduceGE, hp, cxCells]) (by simp (disch := first | omega | (simp only [fsLen]; omega)) only [↓fsPre, fsPost, fsCond, fsGen, fsDefs, fsDefX, cls, eqVal, reduceCtorEq, Nat.reduceAdd, Nat.reduceMul, Nat.reduceSub, Nat.reduceLT, Nat.reduceLeDiff, Nat.reduceEqDiff, Nat.reduceBEq, Nat.reduceBNe, Int.reduceLT, Int.reduceLE, Int.reduceEq, Int.reduceNe, Int.reduceAdd, Int.reduceSub, Int.reduceNeg, Int.reduceToNat, Int.reduceMul, ↓reduceIte, Int.reduceGT, Int.reduceGE, hR]) (by omega) (by omega) (by omega) (by omega) (by omega) (by omega)) rfl ?_
    simp (disch := first | omega | (simp only [fsLen]; omega)) only [↓fsPre, fsPost, fsCond, fsGen, fsDefs, fsDefX, cls, eqVal, reduceCtorEq, Nat.reduceAdd, Nat.reduceMul, Nat.reduceSub, Nat.reduceLT, Nat.reduceLeDiff, Nat.reduceEqDiff, Nat.reduceBEq, Nat.reduceBNe, Int.reduceLT, Int.reduceLE, Int.reduceEq, Int.reduceNe, Int.reduceAdd, Int.reduceSub, Int.reduceNeg, Int.reduceToNat, Int.reduceMul, ↓reduceIte, Int.reduceGT, Int.reduceGE, f2, f3, f4, f7, f8, f10, f32, f33, f34, hp, vnv, vals_length, vals_set, hrl, lF, nb_one]
    rw [hrs, hst]
    show _ = hset H bF (.cells (vals (rr.1.set (A.l.idxOf (A.hf k)[j]) (takeV (fun i => d (o + i)) rr.2 (A.bits (A.hf k)[j])))) false) ++ _
    rw [hr2, hwd, Int.natCast_add]
  · rintro F h ⟨f2, f3, f4, f7, f8, f10, f32, f33, f34, rfl⟩
    simp (disch := first | omega | (simp only [fsLen]; omega)) only [↓fsPre, fsPost, fsCond, fsGen, fsDefs, fsDefX, cls, eqVal, reduceCtorEq, Nat.reduceAdd, Nat.reduceMul, Nat.reduceSub, Nat.reduceLT, Nat.reduceLeDiff, Nat.reduceEqDiff, Nat.reduceBEq, Nat.reduceBNe, Int.reduceLT, Int.reduceLE, Int.reduceEq, Int.reduceNe, Int.reduceAdd, Int.reduceSub, Int.reduceNeg, Int.reduceToNat, Int.reduceMul, ↓reduceIte, Int.reduceGT, Int.reduceGE, f2, f3, f4, f7, f8, f10, f32, f33, f34, hp, hF, hV, hR, vals_length, bools_length, bools_set, lF, lV]
    rw [List.take_length]
    exact ⟨_, rfl⟩

theorem header_short {A : XA} {H0 : Heap} {z0 z1 z2 z3 z4 z5 z6 z7 z8 z9 : NV} (x : XAt A H0 z0 z1 z2 z3 z4 z5 z6 z7 z8 z9) (H : Heap) (old : ∀ b, b < H0.length → hget H b = hget H0 b)
    (p m k : Nat) (a : Option (Nat × Nat)) (c : Cap) (vF vV : NV) (st : Int) (gp : H0.length ≤ p)
    (hp : hget H p = some (.cells (cxCells vF vV (.slice a m c) st) false)) (hk : k < A.hl.length) (hN : m ≤ 1000) (hsz : m < A.sum (A.hf k) / 8) :
    NCall Try.prog 35 [.agg [z0, z1, z2, z3, z4, z5, z6, z7, z8, z9], .ptr (some (p, 0)), .int .i64 k] H fun r => r = (.bool false, H) := by
  obtain ⟨o0, o1, o2, o3, o4, o5, o6, o7, o8, o9⟩ := x.ones
  have lp := hget_some_lt hp
  obtain ⟨hl, hm, hs0, hs1, hs8⟩ := x.ok.hf k hk
  obtain ⟨bH, cH, csH, roH, rfl, hH, hrH⟩ := x.g
  obtain ⟨s, bI, cI, csI, roI, hcI, hI, hIc⟩ := hrH k hk
  have lH := hget_some_lt hH
  have lI := hget_some_lt hI
  have hH' := (old _ lH).trans hH
  have hI' := (old _ lI).trans hI
  refine call_pure E0 mixed t35_ok (by kernel_rfl) trivial ?_
  have xm := fun h (e : ∀ b, b < H0.length → hget h b = hget H0 b) => x.mono (h' := h) e
  have hb := fun h e hI => bitsOf_ok (xm h e) A.hl[k] s (A.hf k) bI cI csI roI hI hIc hl hm hs1
  have dq : Int.tdiv ((A.sum (A.hf k) : Nat) : Int) 8 = ((A.sum (A.hf k) / 8 : Nat) : Int) := by rw [Int.tdiv_eq_ediv_of_nonneg (by omega)]; omega
  simp only [t35, cxCells]
  unfold cxCells at hp
  simp (disch := first | omega | (simp only [fsLen]; omega)) only [↓fsPre, fsPost, fsCond, fsGen, fsDefs, fsDefX, cls, eqVal, reduceCtorEq, Nat.reduceAdd, Nat.reduceMul, Nat.reduceSub, Nat.reduceLT, Nat.reduceLeDiff, Nat.reduceEqDiff, Nat.reduceBEq, Nat.reduceBNe, Int.reduceLT, Int.reduceLE, Int.reduceEq, Int.reduceNe, Int.reduceAdd, Int.reduceSub, Int.reduceNeg, Int.reduceToNat, Int.reduceMul, ↓reduceIte, Int.reduceGT, Int.reduceGE, o0, o2, o3, o4, o5, o6, o7, o8, o9, hH', hcI]
  refine callT_one (hb _ (fun b hb => by simp (disch := first | omega | (simp only [fsLen]; omega)) only [↓fsPre, fsPost, fsCond, fsGen, fsDefs, fsDefX, cls, eqVal, reduceCtorEq, Nat.reduceAdd, Nat.reduceMul, Nat.reduceSub, Nat.reduceLT, Nat.reduceLeDiff, Nat.reduceEqDiff, Nat.reduceBEq, Nat.reduceBNe, Int.reduceLT, Int.reduceLE, Int.reduceEq, Int.reduceNe, Int.reduceAdd, Int.reduceSub, Int.reduceNeg, Int.reduceToNat, Int.reduceMul, ↓reduceIte, Int.reduceGT, Int.reduceGE]; exact old b hb) (by simp (disch := first | omega | (simp only [fsLen]; omega)) only [↓fsPre, fsPost, fsCond, fsGen, fsDefs, fsDefX, cls, eqVal, reduceCtorEq, Nat.reduceAdd, Nat.reduceMul, Nat.reduceSub, Nat.reduceLT, Nat.reduceLeDiff, Nat.reduceEqDiff, Nat.reduceBEq, Nat.reduceBNe, Int.reduceLT, Int.reduceLE, Int.reduceEq, Int.reduceNe, Int.reduceAdd, Int.reduceSub, Int.reduceNeg, Int.reduceToNat, Int.reduceMul, ↓reduceIte, Int.reduceGT, Int.reduceGE, hI'])) rfl ?_
  simp (disch := first | omega | (simp only [fsLen]; omega)) only [↓fsPre, fsPost, fsCond, fsGen, fsDefs, fsDefX, cls, eqVal, reduceCtorEq, Nat.reduceAdd, Nat.reduceMul, Nat.reduceSub, Nat.reduceLT, Nat.reduceLeDiff, Nat.reduceEqDiff, Nat.reduceBEq, Nat.reduceBNe, Int.reduceLT, Int.reduceLE, Int.reduceEq, Int.reduceNe, Int.reduceAdd, Int.reduceSub, Int.reduceNeg, Int.reduceToNat, Int.reduceMul, ↓reduceIte, Int.reduceGT, Int.reduceGE, dq, hp]
  exact ⟨_, rfl⟩

/-! ### The next state -/
def pick (v : BitVec 128) (d : Int) : List XCase → Int
  | [] => d
  | c :: cs => if v &&& c.mask = c.value then c.next else pick v d cs
def XA.next (A : XA) (fl : List (BitVec 128)) (s : XSt) : Int := if s.sel = 0 then s.dflt else pick (fl.getD (A.l.idxOf s.sel) 0#128) s.dflt s.cases
theorem heap_grow {H L : Heap} (hl : H.length ≤ L.length) (o : ∀ b, b < H.length → hget L b = hget H b) : ∃ J, L = H ++ J := by
  refine ⟨L.drop H.length, ?_⟩
  apply List.ext_getElem (by simp; omega)
  intro i h1 h2
  by_cases hi : i < H.length
  · have := o i hi
    rw [List.getElem_append_left hi]
    simpa [hget, hi, h1] using this
  · rw [List.getElem_append_right (by omega)]
    simp only [List.getElem_drop]
    congr 1; omega

set_option maxHeartbeats 1000000 in
theorem next0_ok {A : XA} {H : Heap} {z0 z1 z2 z3 z4 z5 z6 z7 z8 z9 : NV} (x : XAt A H z0 z1 z2 z3 z4 z5 z6 z7 z8 z9) (vF vV vR cv : NV) (st id hd df : Int) (ov : vF.one = true ∧ vV.one = true ∧ vR.one = true ∧ cv.one = true) :
    NCall Try.prog 37 [.agg [z0, z1, z2, z3, z4, z5, z6, z7, z8, z9], .agg (cxCells vF vV vR st), .agg [.int .i64 id, .int .i64 hd, .int .i64 0, cv, .int .i64 df]] H fun r => r = (.int .i64 df, H) := by
  obtain ⟨o0, o1, o2, o3, o4, o5, o6, o7, o8, o9⟩ := x.ones
  obtain ⟨v1, v2, v3, v4⟩ := ov
  refine call_pure E0 mixed t37_ok (by kernel_rfl) trivial ?_
  simp only [t37, cxCells]
  simp (disch := first | omega | (simp only [fsLen]; omega)) only [↓fsPre, fsPost, fsCond, fsGen, fsDefs, fsDefX, cls, eqVal, reduceCtorEq, Nat.reduceAdd, Nat.reduceMul, Nat.reduceSub, Nat.reduceLT, Nat.reduceLeDiff, Nat.reduceEqDiff, Nat.reduceBEq, Nat.reduceBNe, Int.reduceLT, Int.reduceLE, Int.reduceEq, Int.reduceNe, Int.reduceAdd, Int.reduceSub, Int.reduceNeg, Int.reduceToNat, Int.reduceMul, ↓reduceIte, Int.reduceGT, Int.reduceGE, o0, o1, o2, o3, o4, o5, o6, o7, o8, o9, v1, v2, v3, v4]
  exact ⟨_, rfl⟩

set_option maxHeartbeats 1000000 in
theorem next_ok' {A : XA} {H : Heap} {z0 z1 z2 z3 z4 z5 z6 z7 z8 z9 : NV} (x : XAt A H z0 z1 z2 z3 z4 z5 z6 z7 z8 z9) (bF : Nat) (cF : Cap) (vV vR cv : NV) (st id hd sel df : Int) (ks : List XCase) (fl : List (BitVec 128)) (ov : vV.one = true ∧ vR.one = true)
    (hF : hget H bF = some (.cells (vals fl) false)) (lF : fl.length = A.l.length) (hs : sel ∈ A.l) (h0 : sel ≠ 0) (hc : CasesAt H cv ks) (hl : ks.length ≤ 100) :
    NCall Try.prog 37 [.agg [z0, z1, z2, z3, z4, z5, z6, z7, z8, z9], .agg (cxCells (.slice (some (bF, 0)) A.l.length cF) vV vR st), .agg [.int .i64 id, .int .i64 hd, .int .i64 sel, cv, .int .i64 df]] H
      fun r => r = (.int .i64 (pick (fl.getD (A.l.idxOf sel) 0#128) df ks), H) := by
  obtain ⟨o0, o1, o2, o3, o4, o5, o6, o7, o8, o9⟩ := x.ones
  obtain ⟨v1, v2⟩ := ov
  have lF' := hget_some_lt hF
  have hix := ixI_mem hs
  have hlt := List.idxOf_lt_length_of_mem hs
  have hlt' : A.l.idxOf sel < fl.length := by omega
  have hcut := vals_cut hlt'
  have hgd : fl.getD (A.l.idxOf sel) 0#128 = fl[A.l.idxOf sel] := by simp [List.getD, hlt']
  rw [hgd]
  generalize fl[A.l.idxOf sel] = v at *
  obtain ⟨a, c, rfl, hks⟩ := hc
  have xm := fun L => x.mono (h' := H ++ L) fun b hb => hget_appl hb
  have hfi := fun L => xfield_ok (xm L) sel
  have ha := fun H a b => and_ok H a b
  refine call_pure E0 mixed t37_ok (by kernel_rfl) trivial ?_
  simp only [t37, cxCells, vnv] at ha ⊢
  simp (disch := first | omega | (simp only [fsLen]; omega)) only [↓fsPre, fsPost, fsCond, fsGen, fsDefs, cls, eqVal, vbGen, fill_bits, reduceCtorEq, Nat.reduceAdd, Nat.reduceMul, Nat.reduceSub, Nat.reduceLT, Nat.reduceLeDiff, Nat.reduceEqDiff, Nat.reduceBEq, Nat.reduceBNe, Int.reduceLT, Int.reduceLE, Int.reduceEq, Int.reduceNe, Int.reduceAdd, Int.reduceSub, Int.reduceNeg, Int.reduceToNat, Int.reduceMul, ↓reduceIte, Int.reduceGT, Int.reduceGE, o0, o1, o2, o3, o4, o5, o6, o7, o8, o9, v1, v2, h0]
  refine callDT_one (hfi _) rfl ?_
  simp (disch := first | omega | (simp only [fsLen]; omega)) only [↓fsPre, fsPost, fsCond, fsGen, fsDefs, cls, eqVal, vbGen, fill_bits, reduceCtorEq, Nat.reduceAdd, Nat.reduceMul, Nat.reduceSub, Nat.reduceLT, Nat.reduceLeDiff, Nat.reduceEqDiff, Nat.reduceBEq, Nat.reduceBNe, Int.reduceLT, Int.reduceLE, Int.reduceEq, Int.reduceNe, Int.reduceAdd, Int.reduceSub, Int.reduceNeg, Int.reduceToNat, Int.reduceMul, ↓reduceIte, Int.reduceGT, Int.reduceGE, hix, hF, hcut, nb_one]
  refine wloop (fun j F h => F 4 = .ptr (some (H.length + 1, 0)) ∧ F 5 = .ptr (some (H.length + 2, 0)) ∧ F 7 = .ptr (some (H.length + 3, 0)) ∧ F 24 = .slice a ks.length c ∧ F 25 = .int .i64 ks.length ∧ F 26 = .int .i64 j ∧ H.length + 4 ≤ h.length ∧
    (∀ b, b < H.length → hget h b = hget H b) ∧ hget h (H.length + 2) = some (.cells [.int .i64 id, .int .i64 hd, .int .i64 sel, .slice a ks.length c, .int .i64 df] false) ∧ hget h (H.length + 3) = some (.cells [nb (hiOf v), nb (loOf v)] false) ∧
    pick v df (ks.drop j) = pick v df ks) ks.length ?_ ?_ ?_
  · simp (disch := first | omega | (simp only [fsLen]; omega)) only [↓fsPre, fsPost, fsCond, fsGen, fsDefs, cls, eqVal, vbGen, fill_bits, reduceCtorEq, Nat.reduceAdd, Nat.reduceMul, Nat.reduceSub, Nat.reduceLT, Nat.reduceLeDiff, Nat.reduceEqDiff, Nat.reduceBEq, Nat.reduceBNe, Int.reduceLT, Int.reduceLE, Int.reduceEq, Int.reduceNe, Int.reduceAdd, Int.reduceSub, Int.reduceNeg, Int.reduceToNat, Int.reduceMul, ↓reduceIte, Int.reduceGT, Int.reduceGE]
    intro b hb
    simp (disch := first | omega | (simp only [fsLen]; omega)) only [↓fsPre, fsPost, fsCond, fsGen, fsDefs, cls, eqVal, vbGen, fill_bits, reduceCtorEq, Nat.reduceAdd, Nat.reduceMul, Nat.reduceSub, Nat.reduceLT, Nat.reduceLeDiff, Nat.reduceEqDiff, Nat.reduceBEq, Nat.reduceBNe, Int.reduceLT, Int.reduceLE, Int.reduceEq, Int.reduceNe, Int.reduceAdd, Int.reduceSub, Int.reduceNeg, Int.reduceToNat, Int.reduceMul, ↓reduceIte, Int.reduceGT, Int.reduceGE]
  · rintro j F h hj ⟨f4, f5, f7, f24, f25, f26, hlen, hold, g2, g3, hpk⟩
    obtain ⟨bc, cs, ro, rfl, hbc, hrow⟩ := hks (by omega)
    have lbc := hget_some_lt hbc
    have hbc' := (hold _ lbc).trans hbc
    have hcj := hrow j hj
    rw [List.drop_eq_getElem_cons hj] at hpk
    simp only [pick] at hpk
    generalize ks[j] = kj at *
    simp (disch := first | omega | (simp only [fsLen]; omega)) only [↓fsPre, fsPost, fsCond, fsGen, fsDefs, cls, eqVal, vbGen, fill_bits, reduceCtorEq, Nat.reduceAdd, Nat.reduceMul, Nat.reduceSub, Nat.reduceLT, Nat.reduceLeDiff, Nat.reduceEqDiff, Nat.reduceBEq, Nat.reduceBNe, Int.reduceLT, Int.reduceLE, Int.reduceEq, Int.reduceNe, Int.reduceAdd, Int.reduceSub, Int.reduceNeg, Int.reduceToNat, Int.reduceMul, ↓reduceIte, Int.reduceGT, Int.reduceGE, f4, f5, f7, f24, f25, f26, hbc', hcj, XCase.cells, nb_one, g2, g3]
    refine callDT_one (ha _ _ _) rfl ?_
    simp (disch := first | omega | (simp only [fsLen]; omega)) only [↓fsPre, fsPost, fsCond, fsGen, fsDefs, cls, eqVal, vbGen, fill_bits, reduceCtorEq, Nat.reduceAdd, Nat.reduceMul, Nat.reduceSub, Nat.reduceLT, Nat.reduceLeDiff, Nat.reduceEqDiff, Nat.reduceBEq, Nat.reduceBNe, Int.reduceLT, Int.reduceLE, Int.reduceEq, Int.reduceNe, Int.reduceAdd, Int.reduceSub, Int.reduceNeg, Int.reduceToNat, Int.reduceMul, ↓reduceIte, Int.reduceGT, Int.reduceGE, f4, f5, f7, f24, f25, f26, nb_one, g2, g3]
    rw [words_eq, Bool.beq_eq_decide_eq]
    refine condK_dec (fun he => ?_) (fun he => ?_)
    · simp (disch := first | omega | (simp only [fsLen]; omega)) only [↓fsPre, fsPost, fsCond, fsGen, fsDefs, cls, eqVal, vbGen, fill_bits, reduceCtorEq, Nat.reduceAdd, Nat.reduceMul, Nat.reduceSub, Nat.reduceLT, Nat.reduceLeDiff, Nat.reduceEqDiff, Nat.reduceBEq, Nat.reduceBNe, Int.reduceLT, Int.reduceLE, Int.reduceEq, Int.reduceNe, Int.reduceAdd, Int.reduceSub, Int.reduceNeg, Int.reduceToNat, Int.reduceMul, ↓reduceIte, Int.reduceGT, Int.reduceGE, f4, f5, f7, f24, f25, f26]
      rw [if_pos he] at hpk
      refine ⟨by rw [← hpk], heap_grow (by simp only [List.length_append]; omega) fun b hb => ?_⟩
      simp (disch := first | omega | (simp only [fsLen]; omega)) only [↓fsPre, fsPost, fsCond, fsGen, fsDefs, cls, eqVal, vbGen, fill_bits, reduceCtorEq, Nat.reduceAdd, Nat.reduceMul, Nat.reduceSub, Nat.reduceLT, Nat.reduceLeDiff, Nat.reduceEqDiff, Nat.reduceBEq, Nat.reduceBNe, Int.reduceLT, Int.reduceLE, Int.reduceEq, Int.reduceNe, Int.reduceAdd, Int.reduceSub, Int.reduceNeg, Int.reduceToNat, Int.reduceMul, ↓reduceIte, Int.reduceGT, Int.reduceGE]
      exact hold b hb
    · simp (disch := first | omega | (simp only [fsLen]; omega)) only [↓fsPre, fsPost, fsCond, fsGen, fsDefs, cls, eqVal, vbGen, fill_bits, reduceCtorEq, Nat.reduceAdd, Nat.reduceMul, Nat.reduceSub, Nat.reduceLT, Nat.reduceLeDiff, Nat.reduceEqDiff, Nat.reduceBEq, Nat.reduceBNe, Int.reduceLT, Int.reduceLE, Int.reduceEq, Int.reduceNe, Int.reduceAdd, Int.reduceSub, Int.reduceNeg, Int.reduceToNat, Int.reduceMul, ↓reduceIte, Int.reduceGT, Int.reduceGE, f4, f5, f7, f24, f25, f26, g2, g3]
      rw [if_neg he] at hpk
      refine ⟨by omega, fun b hb => ?_, hpk⟩
      simp (disch := first | omega | (simp only [fsLen]; omega)) only [↓fsPre, fsPost, fsCond, fsGen, fsDefs, cls, eqVal, vbGen, fill_bits, reduceCtorEq, Nat.reduceAdd, Nat.reduceMul, Nat.reduceSub, Nat.reduceLT, Nat.reduceLeDiff, Nat.reduceEqDiff, Nat.reduceBEq, Nat.reduceBNe, Int.reduceLT, Int.reduceLE, Int.reduceEq, Int.reduceNe, Int.reduceAdd, Int.reduceSub, Int.reduceNeg, Int.reduceToNat, Int.reduceMul, ↓reduceIte, Int.reduceGT, Int.reduceGE]
      exact hold b hb
  · rintro F h ⟨f4, f5, f7, f24, f25, f26, hlen, hold, g2, g3, hpk⟩
    simp (disch := first | omega | (simp only [fsLen]; omega)) only [↓fsPre, fsPost, fsCond, fsGen, fsDefs, cls, eqVal, vbGen, fill_bits, reduceCtorEq, Nat.reduceAdd, Nat.reduceMul, Nat.reduceSub, Nat.reduceLT, Nat.reduceLeDiff, Nat.reduceEqDiff, Nat.reduceBEq, Nat.reduceBNe, Int.reduceLT, Int.reduceLE, Int.reduceEq, Int.reduceNe, Int.reduceAdd, Int.reduceSub, Int.reduceNeg, Int.reduceToNat, Int.reduceMul, ↓reduceIte, Int.reduceGT, Int.reduceGE, f4, f5, f7, f24, f25, f26, g2]
    rw [List.drop_length] at hpk
    exact ⟨by rw [← hpk]; rfl, heap_grow (by omega) hold⟩
end Go.Proofs
