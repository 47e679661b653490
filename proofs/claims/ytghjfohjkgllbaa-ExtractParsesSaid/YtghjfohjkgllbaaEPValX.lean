/- Val1, Val2, ValO in one text. -/
import Derived.Test.YtghjfohjkgllbaaVbD
import Derived.Test.YtghjfohjkgllbaaEPBC
import Derived.Test.YtghjfohjkgllbaaVbB
set_option linter.unusedSimpArgs false
set_option linter.unusedVariables false
set_option maxRecDepth 10000
namespace Go.Proofs
open Go.Ns

theorem fill_bits : fill 128 (.bool false) = bitsC fun _ => false := bitsC_zero

theorem read_ok (H : Heap) (v : BitVec 128) : NCall Try.prog 43 [vnv v] H fun r => r = (.agg (bitsC v.getLsbD), H) := by
  refine call_pure E0 mixed t43_ok (by kernel_rfl) bitsC_lo ?_
  simp only [t43, fill_bits, vnv]
  simp (disch := first | omega | (simp only [fsLen]; omega)) only [↓fsPre, fsPost, fsCond, fsGen, fsDefs, cls, eqVal, vbGen, fill_bits, reduceCtorEq, Nat.reduceAdd, Nat.reduceMul, Nat.reduceSub, Nat.reduceLT, Nat.reduceLeDiff, Nat.reduceEqDiff, Nat.reduceBEq, Nat.reduceBNe, Int.reduceLT, Int.reduceLE, Int.reduceEq, Int.reduceNe, Int.reduceAdd, Int.reduceSub, Int.reduceNeg, Int.reduceToNat, Int.reduceMul, ↓reduceIte, Int.reduceGT, Int.reduceGE]
  refine wloop (fun j F h => F 1 = .ptr (some (H.length, 0)) ∧ F 2 = .ptr (some (H.length + 1, 0)) ∧ F 3 = .ptr (some (H.length + 2, 0)) ∧ F 4 = .int .i64 j ∧
    ∃ f, h = H ++ [some (.cells [nb (hiOf v), nb (loOf v)] false), some (.cells (bitsC fun _ => false) false), some (.cells (bitsC f) false)] ∧ ∀ i, i < 128 → f i = (decide (i < j ∨ 64 ≤ i ∧ i < 64 + j) && v.getLsbD i)) 64 ?_ ?_ ?_
  · simp (disch := first | omega | (simp only [fsLen]; omega)) only [↓fsPre, fsPost, fsCond, fsGen, fsDefs, cls, eqVal, vbGen, fill_bits, reduceCtorEq, Nat.reduceAdd, Nat.reduceMul, Nat.reduceSub, Nat.reduceLT, Nat.reduceLeDiff, Nat.reduceEqDiff, Nat.reduceBEq, Nat.reduceBNe, Int.reduceLT, Int.reduceLE, Int.reduceEq, Int.reduceNe, Int.reduceAdd, Int.reduceSub, Int.reduceNeg, Int.reduceToNat, Int.reduceMul, ↓reduceIte, Int.reduceGT, Int.reduceGE]
    exact ⟨_, rfl, fun i hi => by rw [decide_eq_false (by omega)]; rfl⟩
  · rintro j F h hj ⟨f1, f2, f3, f4, f, rfl, hf⟩
    simp (disch := first | omega | (simp only [fsLen]; omega)) only [↓fsPre, fsPost, fsCond, fsGen, fsDefs, cls, eqVal, vbGen, fill_bits, reduceCtorEq, Nat.reduceAdd, Nat.reduceMul, Nat.reduceSub, Nat.reduceLT, Nat.reduceLeDiff, Nat.reduceEqDiff, Nat.reduceBEq, Nat.reduceBNe, Int.reduceLT, Int.reduceLE, Int.reduceEq, Int.reduceNe, Int.reduceAdd, Int.reduceSub, Int.reduceNeg, Int.reduceToNat, Int.reduceMul, ↓reduceIte, Int.reduceGT, Int.reduceGE, f1, f2, f3, f4, loOf_get, hiOf_get]
    refine ⟨_, rfl, fun i hi => ?_⟩
    simp only [updB]
    by_cases h1 : i = j + 64
    · subst h1
      simp [hj, Nat.add_comm]
    · rw [if_neg h1]
      by_cases h2 : i = j
      · subst h2
        simp [hj]
      · rw [if_neg h2, hf i hi]
        congr 1
        simp only [decide_eq_decide]
        omega
  · rintro F h ⟨f1, f2, f3, f4, f, rfl, hf⟩
    simp (disch := first | omega | (simp only [fsLen]; omega)) only [↓fsPre, fsPost, fsCond, fsGen, fsDefs, cls, eqVal, vbGen, fill_bits, reduceCtorEq, Nat.reduceAdd, Nat.reduceMul, Nat.reduceSub, Nat.reduceLT, Nat.reduceLeDiff, Nat.reduceEqDiff, Nat.reduceBEq, Nat.reduceBNe, Int.reduceLT, Int.reduceLE, Int.reduceEq, Int.reduceNe, Int.reduceAdd, Int.reduceSub, Int.reduceNeg, Int.reduceToNat, Int.reduceMul, ↓reduceIte, Int.reduceGT, Int.reduceGE, f1, f2, f3, f4]
    refine ⟨congrArg _ (bitsC_congr fun i hi => ?_), _, rfl⟩
    rw [hf i hi]
    simp; omega

theorem make_ok (H : Heap) (f : Nat → Bool) : NCall Try.prog 44 [.agg (bitsC f)] H fun r => r = (vnv (ofB f 128), H) := by
  refine call_pure E0 mixed t44_ok (by kernel_rfl) vnv_lo ?_
  generalize hw : vnv (ofB f 128) = w
  simp only [t44, nb_zero]
  simp (disch := first | omega | (simp only [fsLen]; omega)) only [↓fsPre, fsPost, fsCond, fsGen, fsDefs, cls, eqVal, vbGen, fill_bits, reduceCtorEq, Nat.reduceAdd, Nat.reduceMul, Nat.reduceSub, Nat.reduceLT, Nat.reduceLeDiff, Nat.reduceEqDiff, Nat.reduceBEq, Nat.reduceBNe, Int.reduceLT, Int.reduceLE, Int.reduceEq, Int.reduceNe, Int.reduceAdd, Int.reduceSub, Int.reduceNeg, Int.reduceToNat, Int.reduceMul, ↓reduceIte, Int.reduceGT, Int.reduceGE]
  refine wloop (fun j F h => F 1 = .ptr (some (H.length, 0)) ∧ F 2 = .ptr (some (H.length + 1, 0)) ∧ F 3 = .ptr (some (H.length + 2, 0)) ∧ F 4 = .int .i64 j ∧
    ∃ x y, h = H ++ [some (.cells (bitsC f) false), some (.cells [nb 0#64, nb 0#64] false), some (.cells [nb x, nb y] false)] ∧ (∀ i, i < 64 → x.getLsbD i = (decide (i < j) && f (64 + i))) ∧ (∀ i, i < 64 → y.getLsbD i = (decide (i < j) && f i))) 64 ?_ ?_ ?_
  · simp (disch := first | omega | (simp only [fsLen]; omega)) only [↓fsPre, fsPost, fsCond, fsGen, fsDefs, cls, eqVal, vbGen, fill_bits, reduceCtorEq, Nat.reduceAdd, Nat.reduceMul, Nat.reduceSub, Nat.reduceLT, Nat.reduceLeDiff, Nat.reduceEqDiff, Nat.reduceBEq, Nat.reduceBNe, Int.reduceLT, Int.reduceLE, Int.reduceEq, Int.reduceNe, Int.reduceAdd, Int.reduceSub, Int.reduceNeg, Int.reduceToNat, Int.reduceMul, ↓reduceIte, Int.reduceGT, Int.reduceGE]
    exact ⟨_, _, rfl, by simp, by simp⟩
  · rintro j F h hj ⟨f1, f2, f3, f4, x, y, rfl, hx, hy⟩
    have key : ∀ (g : Nat → Bool) (z : BitVec 64) (b : Bool), g j = b → (∀ i, i < 64 → z.getLsbD i = (decide (i < j) && g i)) → ∀ i, i < 64 → (if b then z ||| (BitVec.ofInt 64 1 <<< j) else z).getLsbD i = (decide (i < j + 1) && g i) := by
      intro g z b hb hz i hi
      by_cases h1 : i = j
      · subst h1
        cases b
        · rw [if_neg (by simp), hz i hi, hb]; simp
        · rw [if_pos rfl, or_bit hi hi, hz i hi, hb]; simp
      · have : decide (i < j + 1) = decide (i < j) := by rw [decide_eq_decide]; omega
        rw [this, ← hz i hi]
        cases b
        · rw [if_neg (by simp)]
        · rw [if_pos rfl, or_bit hi hj]; simp [h1]
    simp (disch := first | omega | (simp only [fsLen]; omega)) only [↓fsPre, fsPost, fsCond, fsGen, fsDefs, cls, eqVal, vbGen, fill_bits, reduceCtorEq, Nat.reduceAdd, Nat.reduceMul, Nat.reduceSub, Nat.reduceLT, Nat.reduceLeDiff, Nat.reduceEqDiff, Nat.reduceBEq, Nat.reduceBNe, Int.reduceLT, Int.reduceLE, Int.reduceEq, Int.reduceNe, Int.reduceAdd, Int.reduceSub, Int.reduceNeg, Int.reduceToNat, Int.reduceMul, ↓reduceIte, Int.reduceGT, Int.reduceGE, f1, f2, f3, f4]
    refine condK_bool (fun e1 => ?_) (fun e1 => ?_)
    · simp (disch := first | omega | (simp only [fsLen]; omega)) only [↓fsPre, fsPost, fsCond, fsGen, fsDefs, cls, eqVal, vbGen, fill_bits, reduceCtorEq, Nat.reduceAdd, Nat.reduceMul, Nat.reduceSub, Nat.reduceLT, Nat.reduceLeDiff, Nat.reduceEqDiff, Nat.reduceBEq, Nat.reduceBNe, Int.reduceLT, Int.reduceLE, Int.reduceEq, Int.reduceNe, Int.reduceAdd, Int.reduceSub, Int.reduceNeg, Int.reduceToNat, Int.reduceMul, ↓reduceIte, Int.reduceGT, Int.reduceGE, f1, f2, f3, f4]
      refine condK_bool (fun e2 => ?_) (fun e2 => ?_)
      · simp (disch := first | omega | (simp only [fsLen]; omega)) only [↓fsPre, fsPost, fsCond, fsGen, fsDefs, cls, eqVal, vbGen, fill_bits, reduceCtorEq, Nat.reduceAdd, Nat.reduceMul, Nat.reduceSub, Nat.reduceLT, Nat.reduceLeDiff, Nat.reduceEqDiff, Nat.reduceBEq, Nat.reduceBNe, Int.reduceLT, Int.reduceLE, Int.reduceEq, Int.reduceNe, Int.reduceAdd, Int.reduceSub, Int.reduceNeg, Int.reduceToNat, Int.reduceMul, ↓reduceIte, Int.reduceGT, Int.reduceGE, f1, f2, f3, f4]
        exact ⟨_, _, rfl, key (fun i => f (64 + i)) x true (by rw [Nat.add_comm]; exact e2) hx, key f y true e1 hy⟩
      · simp (disch := first | omega | (simp only [fsLen]; omega)) only [↓fsPre, fsPost, fsCond, fsGen, fsDefs, cls, eqVal, vbGen, fill_bits, reduceCtorEq, Nat.reduceAdd, Nat.reduceMul, Nat.reduceSub, Nat.reduceLT, Nat.reduceLeDiff, Nat.reduceEqDiff, Nat.reduceBEq, Nat.reduceBNe, Int.reduceLT, Int.reduceLE, Int.reduceEq, Int.reduceNe, Int.reduceAdd, Int.reduceSub, Int.reduceNeg, Int.reduceToNat, Int.reduceMul, ↓reduceIte, Int.reduceGT, Int.reduceGE, f1, f2, f3, f4]
        exact ⟨_, _, rfl, key (fun i => f (64 + i)) x false (by rw [Nat.add_comm]; exact e2) hx, key f y true e1 hy⟩
    · simp (disch := first | omega | (simp only [fsLen]; omega)) only [↓fsPre, fsPost, fsCond, fsGen, fsDefs, cls, eqVal, vbGen, fill_bits, reduceCtorEq, Nat.reduceAdd, Nat.reduceMul, Nat.reduceSub, Nat.reduceLT, Nat.reduceLeDiff, Nat.reduceEqDiff, Nat.reduceBEq, Nat.reduceBNe, Int.reduceLT, Int.reduceLE, Int.reduceEq, Int.reduceNe, Int.reduceAdd, Int.reduceSub, Int.reduceNeg, Int.reduceToNat, Int.reduceMul, ↓reduceIte, Int.reduceGT, Int.reduceGE, f1, f2, f3, f4]
      refine condK_bool (fun e2 => ?_) (fun e2 => ?_)
      · simp (disch := first | omega | (simp only [fsLen]; omega)) only [↓fsPre, fsPost, fsCond, fsGen, fsDefs, cls, eqVal, vbGen, fill_bits, reduceCtorEq, Nat.reduceAdd, Nat.reduceMul, Nat.reduceSub, Nat.reduceLT, Nat.reduceLeDiff, Nat.reduceEqDiff, Nat.reduceBEq, Nat.reduceBNe, Int.reduceLT, Int.reduceLE, Int.reduceEq, Int.reduceNe, Int.reduceAdd, Int.reduceSub, Int.reduceNeg, Int.reduceToNat, Int.reduceMul, ↓reduceIte, Int.reduceGT, Int.reduceGE, f1, f2, f3, f4]
        exact ⟨_, _, rfl, key (fun i => f (64 + i)) x true (by rw [Nat.add_comm]; exact e2) hx, key f y false e1 hy⟩
      · simp (disch := first | omega | (simp only [fsLen]; omega)) only [↓fsPre, fsPost, fsCond, fsGen, fsDefs, cls, eqVal, vbGen, fill_bits, reduceCtorEq, Nat.reduceAdd, Nat.reduceMul, Nat.reduceSub, Nat.reduceLT, Nat.reduceLeDiff, Nat.reduceEqDiff, Nat.reduceBEq, Nat.reduceBNe, Int.reduceLT, Int.reduceLE, Int.reduceEq, Int.reduceNe, Int.reduceAdd, Int.reduceSub, Int.reduceNeg, Int.reduceToNat, Int.reduceMul, ↓reduceIte, Int.reduceGT, Int.reduceGE, f1, f2, f3, f4]
        exact ⟨_, _, rfl, key (fun i => f (64 + i)) x false (by rw [Nat.add_comm]; exact e2) hx, key f y false e1 hy⟩
  · rintro F h ⟨f1, f2, f3, f4, x, y, rfl, hx, hy⟩
    simp (disch := first | omega | (simp only [fsLen]; omega)) only [↓fsPre, fsPost, fsCond, fsGen, fsDefs, cls, eqVal, vbGen, fill_bits, reduceCtorEq, Nat.reduceAdd, Nat.reduceMul, Nat.reduceSub, Nat.reduceLT, Nat.reduceLeDiff, Nat.reduceEqDiff, Nat.reduceBEq, Nat.reduceBNe, Int.reduceLT, Int.reduceLE, Int.reduceEq, Int.reduceNe, Int.reduceAdd, Int.reduceSub, Int.reduceNeg, Int.reduceToNat, Int.reduceMul, ↓reduceIte, Int.reduceGT, Int.reduceGE, f1, f2, f3, f4]
    refine ⟨?_, _, rfl⟩
    rw [← hw]
    refine vnv_eq (fun i hi => ?_) (fun i hi => ?_)
    · rw [hx i hi, ofB_get]; simp [hi]; omega
    · rw [hy i hi, ofB_get]; simp [hi]; omega

theorem left_ok (H : Heap) (v : BitVec 128) (n : Int) (hn : -9223372036854775808 ≤ n ∧ n ≤ 9223372036854775807) : NCall Try.prog 58 [vnv v, .int .i64 n] H fun r => r = (vnv (v <<< n.toNat), H) := by
  refine call_pure E0 mixed t58_ok (by kernel_rfl) vnv_lo ?_
  generalize hw : vnv (v <<< n.toNat) = w
  simp only [t58, nb_zero, vnv]
  simp (disch := first | omega | (simp only [fsLen]; omega)) only [↓fsPre, fsPost, fsCond, fsGen, fsDefs, cls, eqVal, vbGen, fill_bits, reduceCtorEq, Nat.reduceAdd, Nat.reduceMul, Nat.reduceSub, Nat.reduceLT, Nat.reduceLeDiff, Nat.reduceEqDiff, Nat.reduceBEq, Nat.reduceBNe, Int.reduceLT, Int.reduceLE, Int.reduceEq, Int.reduceNe, Int.reduceAdd, Int.reduceSub, Int.reduceNeg, Int.reduceToNat, Int.reduceMul, ↓reduceIte, Int.reduceGT, Int.reduceGE]
  refine condK_dec (fun h0 => ?_) (fun h0 => ?_)
  · simp (disch := first | omega | (simp only [fsLen]; omega)) only [↓fsPre, fsPost, fsCond, fsGen, fsDefs, cls, eqVal, vbGen, fill_bits, reduceCtorEq, Nat.reduceAdd, Nat.reduceMul, Nat.reduceSub, Nat.reduceLT, Nat.reduceLeDiff, Nat.reduceEqDiff, Nat.reduceBEq, Nat.reduceBNe, Int.reduceLT, Int.reduceLE, Int.reduceEq, Int.reduceNe, Int.reduceAdd, Int.reduceSub, Int.reduceNeg, Int.reduceToNat, Int.reduceMul, ↓reduceIte, Int.reduceGT, Int.reduceGE]
    refine ⟨?_, _, rfl⟩
    rw [← hw, show n.toNat = 0 by omega]; simp [vnv]
  · simp (disch := first | omega | (simp only [fsLen]; omega)) only [↓fsPre, fsPost, fsCond, fsGen, fsDefs, cls, eqVal, vbGen, fill_bits, reduceCtorEq, Nat.reduceAdd, Nat.reduceMul, Nat.reduceSub, Nat.reduceLT, Nat.reduceLeDiff, Nat.reduceEqDiff, Nat.reduceBEq, Nat.reduceBNe, Int.reduceLT, Int.reduceLE, Int.reduceEq, Int.reduceNe, Int.reduceAdd, Int.reduceSub, Int.reduceNeg, Int.reduceToNat, Int.reduceMul, ↓reduceIte, Int.reduceGT, Int.reduceGE]
    refine condK_dec (fun h1 => ?_) (fun h1 => ?_)
    · simp (disch := first | omega | (simp only [fsLen]; omega)) only [↓fsPre, fsPost, fsCond, fsGen, fsDefs, cls, eqVal, vbGen, fill_bits, reduceCtorEq, Nat.reduceAdd, Nat.reduceMul, Nat.reduceSub, Nat.reduceLT, Nat.reduceLeDiff, Nat.reduceEqDiff, Nat.reduceBEq, Nat.reduceBNe, Int.reduceLT, Int.reduceLE, Int.reduceEq, Int.reduceNe, Int.reduceAdd, Int.reduceSub, Int.reduceNeg, Int.reduceToNat, Int.reduceMul, ↓reduceIte, Int.reduceGT, Int.reduceGE]
      refine ⟨?_, _, rfl⟩
      rw [← hw, show (n - 64).toNat = n.toNat - 64 by omega]
      exact vleft_ge (by omega)
    · simp (disch := first | omega | (simp only [fsLen]; omega)) only [↓fsPre, fsPost, fsCond, fsGen, fsDefs, cls, eqVal, vbGen, fill_bits, reduceCtorEq, Nat.reduceAdd, Nat.reduceMul, Nat.reduceSub, Nat.reduceLT, Nat.reduceLeDiff, Nat.reduceEqDiff, Nat.reduceBEq, Nat.reduceBNe, Int.reduceLT, Int.reduceLE, Int.reduceEq, Int.reduceNe, Int.reduceAdd, Int.reduceSub, Int.reduceNeg, Int.reduceToNat, Int.reduceMul, ↓reduceIte, Int.reduceGT, Int.reduceGE]
      refine ⟨?_, _, rfl⟩
      rw [← hw, show (64 - n).toNat = 64 - n.toNat by omega]
      exact vleft_lt (by omega)


theorem and_ok (H : Heap) (a b : BitVec 128) : NCall Try.prog 61 [vnv a, vnv b] H fun r => r = (vnv (a &&& b), H) := by
  refine call_pure E0 mixed t61_ok (by kernel_rfl) vnv_lo ?_
  generalize hw : vnv (a &&& b) = w
  simp only [t61, vnv]
  simp (disch := first | omega | (simp only [fsLen]; omega)) only [↓fsPre, fsPost, fsCond, fsGen, fsDefs, cls, eqVal, vbGen, fill_bits, reduceCtorEq, Nat.reduceAdd, Nat.reduceMul, Nat.reduceSub, Nat.reduceLT, Nat.reduceLeDiff, Nat.reduceEqDiff, Nat.reduceBEq, Nat.reduceBNe, Int.reduceLT, Int.reduceLE, Int.reduceEq, Int.reduceNe, Int.reduceAdd, Int.reduceSub, Int.reduceNeg, Int.reduceToNat, Int.reduceMul, ↓reduceIte, Int.reduceGT, Int.reduceGE]
  refine ⟨?_, _, rfl⟩
  rw [← hw]
  refine vnv_eq (fun i hi => ?_) (fun i hi => ?_)
  · simp only [BitVec.getLsbD_and, hiOf_get]; simp [hi]
  · simp only [BitVec.getLsbD_and, loOf_get]; simp [hi]

theorem or_ok (H : Heap) (a b : BitVec 128) : NCall Try.prog 57 [vnv a, vnv b] H fun r => r = (vnv (a ||| b), H) := by
  refine call_pure E0 mixed t57_ok (by kernel_rfl) vnv_lo ?_
  generalize hw : vnv (a ||| b) = w
  simp only [t57, vnv]
  simp (disch := first | omega | (simp only [fsLen]; omega)) only [↓fsPre, fsPost, fsCond, fsGen, fsDefs, cls, eqVal, vbGen, fill_bits, reduceCtorEq, Nat.reduceAdd, Nat.reduceMul, Nat.reduceSub, Nat.reduceLT, Nat.reduceLeDiff, Nat.reduceEqDiff, Nat.reduceBEq, Nat.reduceBNe, Int.reduceLT, Int.reduceLE, Int.reduceEq, Int.reduceNe, Int.reduceAdd, Int.reduceSub, Int.reduceNeg, Int.reduceToNat, Int.reduceMul, ↓reduceIte, Int.reduceGT, Int.reduceGE]
  refine ⟨?_, _, rfl⟩
  rw [← hw]
  refine vnv_eq (fun i hi => ?_) (fun i hi => ?_)
  · simp only [BitVec.getLsbD_or, hiOf_get]; simp [hi]
  · simp only [BitVec.getLsbD_or, loOf_get]; simp [hi]

theorem rand_ok (H : Heap) (a b : BitVec 128) : NCall Try.prog 66 [vnv a, vnv b] H fun r => r = (vnv (a &&& b), H) := by
  refine call_pure E0 mixed t66_ok (by kernel_rfl) vnv_lo ?_
  have ha := fun H => read_ok H a
  have hb := fun H => read_ok H b
  generalize hw : vnv (a &&& b) = w
  simp only [t66, vnv] at ha hb ⊢
  simp (disch := first | omega | (simp only [fsLen]; omega)) only [↓fsPre, fsPost, fsCond, fsGen, fsDefs, cls, eqVal, vbGen, fill_bits, reduceCtorEq, Nat.reduceAdd, Nat.reduceMul, Nat.reduceSub, Nat.reduceLT, Nat.reduceLeDiff, Nat.reduceEqDiff, Nat.reduceBEq, Nat.reduceBNe, Int.reduceLT, Int.reduceLE, Int.reduceEq, Int.reduceNe, Int.reduceAdd, Int.reduceSub, Int.reduceNeg, Int.reduceToNat, Int.reduceMul, ↓reduceIte, Int.reduceGT, Int.reduceGE]
  refine callDT_one (ha _) rfl ?_
  simp (disch := first | omega | (simp only [fsLen]; omega)) only [↓fsPre, fsPost, fsCond, fsGen, fsDefs, cls, eqVal, vbGen, fill_bits, reduceCtorEq, Nat.reduceAdd, Nat.reduceMul, Nat.reduceSub, Nat.reduceLT, Nat.reduceLeDiff, Nat.reduceEqDiff, Nat.reduceBEq, Nat.reduceBNe, Int.reduceLT, Int.reduceLE, Int.reduceEq, Int.reduceNe, Int.reduceAdd, Int.reduceSub, Int.reduceNeg, Int.reduceToNat, Int.reduceMul, ↓reduceIte, Int.reduceGT, Int.reduceGE]
  refine callDT_one (hb _) rfl ?_
  simp (disch := first | omega | (simp only [fsLen]; omega)) only [↓fsPre, fsPost, fsCond, fsGen, fsDefs, cls, eqVal, vbGen, fill_bits, reduceCtorEq, Nat.reduceAdd, Nat.reduceMul, Nat.reduceSub, Nat.reduceLT, Nat.reduceLeDiff, Nat.reduceEqDiff, Nat.reduceBEq, Nat.reduceBNe, Int.reduceLT, Int.reduceLE, Int.reduceEq, Int.reduceNe, Int.reduceAdd, Int.reduceSub, Int.reduceNeg, Int.reduceToNat, Int.reduceMul, ↓reduceIte, Int.reduceGT, Int.reduceGE]
  refine wloop (fun j F h => F 2 = .ptr (some (H.length, 0)) ∧ F 3 = .ptr (some (H.length + 1, 0)) ∧ F 4 = .ptr (some (H.length + 2, 0)) ∧ F 5 = .ptr (some (H.length + 3, 0)) ∧ F 6 = .ptr (some (H.length + 4, 0)) ∧ F 12 = .int .i64 j ∧
    ∃ f, h = H ++ [some (.cells [nb (hiOf a), nb (loOf a)] false), some (.cells [nb (hiOf b), nb (loOf b)] false), some (.cells [nb 0#64, nb 0#64] false), some (.cells (bitsC f) false), some (.cells (bitsC b.getLsbD) false)] ∧ ∀ i, i < 128 → f i = if i < j then (a &&& b).getLsbD i else a.getLsbD i) 128 ?_ ?_ ?_
  · simp (disch := first | omega | (simp only [fsLen]; omega)) only [↓fsPre, fsPost, fsCond, fsGen, fsDefs, cls, eqVal, vbGen, fill_bits, reduceCtorEq, Nat.reduceAdd, Nat.reduceMul, Nat.reduceSub, Nat.reduceLT, Nat.reduceLeDiff, Nat.reduceEqDiff, Nat.reduceBEq, Nat.reduceBNe, Int.reduceLT, Int.reduceLE, Int.reduceEq, Int.reduceNe, Int.reduceAdd, Int.reduceSub, Int.reduceNeg, Int.reduceToNat, Int.reduceMul, ↓reduceIte, Int.reduceGT, Int.reduceGE]
    exact ⟨_, rfl, fun i hi => by simp⟩
  · rintro j F h hj ⟨f2, f3, f4, f5, f6, f12, f, rfl, hf⟩
    have e0 := hf j hj
    rw [if_neg (Nat.lt_irrefl j)] at e0
    cases ea : a.getLsbD j with
    | false =>
      rw [ea] at e0
      simp (disch := first | omega | (simp only [fsLen]; omega)) only [↓fsPre, fsPost, fsCond, fsGen, fsDefs, cls, eqVal, vbGen, fill_bits, reduceCtorEq, Nat.reduceAdd, Nat.reduceMul, Nat.reduceSub, Nat.reduceLT, Nat.reduceLeDiff, Nat.reduceEqDiff, Nat.reduceBEq, Nat.reduceBNe, Int.reduceLT, Int.reduceLE, Int.reduceEq, Int.reduceNe, Int.reduceAdd, Int.reduceSub, Int.reduceNeg, Int.reduceToNat, Int.reduceMul, ↓reduceIte, Int.reduceGT, Int.reduceGE, f2, f3, f4, f5, f6, f12, e0]
      refine ⟨_, rfl, fun i hi => ?_⟩
      simp only [updB]
      by_cases h1 : i = j
      · subst h1; simp [ea]
      · rw [if_neg h1, hf i hi]; simp only [show (i < j + 1) = (i < j) from propext (by omega)]
    | true =>
      rw [ea] at e0
      simp (disch := first | omega | (simp only [fsLen]; omega)) only [↓fsPre, fsPost, fsCond, fsGen, fsDefs, cls, eqVal, vbGen, fill_bits, reduceCtorEq, Nat.reduceAdd, Nat.reduceMul, Nat.reduceSub, Nat.reduceLT, Nat.reduceLeDiff, Nat.reduceEqDiff, Nat.reduceBEq, Nat.reduceBNe, Int.reduceLT, Int.reduceLE, Int.reduceEq, Int.reduceNe, Int.reduceAdd, Int.reduceSub, Int.reduceNeg, Int.reduceToNat, Int.reduceMul, ↓reduceIte, Int.reduceGT, Int.reduceGE, f2, f3, f4, f5, f6, f12, e0]
      refine ⟨_, rfl, fun i hi => ?_⟩
      simp only [updB]
      by_cases h1 : i = j
      · subst h1; simp [ea]
      · rw [if_neg h1, hf i hi]; simp only [show (i < j + 1) = (i < j) from propext (by omega)]
  · rintro F h ⟨f2, f3, f4, f5, f6, f12, f, rfl, hf⟩
    simp (disch := first | omega | (simp only [fsLen]; omega)) only [↓fsPre, fsPost, fsCond, fsGen, fsDefs, cls, eqVal, vbGen, fill_bits, reduceCtorEq, Nat.reduceAdd, Nat.reduceMul, Nat.reduceSub, Nat.reduceLT, Nat.reduceLeDiff, Nat.reduceEqDiff, Nat.reduceBEq, Nat.reduceBNe, Int.reduceLT, Int.reduceLE, Int.reduceEq, Int.reduceNe, Int.reduceAdd, Int.reduceSub, Int.reduceNeg, Int.reduceToNat, Int.reduceMul, ↓reduceIte, Int.reduceGT, Int.reduceGE, f2, f3, f4, f5, f6, f12]
    refine callT_one (make_ok _ f) rfl ?_
    simp (disch := first | omega | (simp only [fsLen]; omega)) only [↓fsPre, fsPost, fsCond, fsGen, fsDefs, cls, eqVal, vbGen, fill_bits, reduceCtorEq, Nat.reduceAdd, Nat.reduceMul, Nat.reduceSub, Nat.reduceLT, Nat.reduceLeDiff, Nat.reduceEqDiff, Nat.reduceBEq, Nat.reduceBNe, Int.reduceLT, Int.reduceLE, Int.reduceEq, Int.reduceNe, Int.reduceAdd, Int.reduceSub, Int.reduceNeg, Int.reduceToNat, Int.reduceMul, ↓reduceIte, Int.reduceGT, Int.reduceGE, vnv, f4]
    refine ⟨?_, _, rfl⟩
    rw [← hw]
    exact congrArg vnv (ofB_eq fun i hi => by rw [hf i hi, if_pos hi])


/-- A number as a value. -/
def ofV (k : Int) : BitVec 128 := BitVec.ofNat 128 k.toNat
theorem ofV_nv {k : Int} (h : 0 ≤ k ∧ k < 18446744073709551616) : NV.agg [nb 0#64, nb (BitVec.ofInt 64 k)] = vnv (ofV k) := by
  have h1 : (ofV k).toNat = k.toNat := by unfold ofV; rw [BitVec.toNat_ofNat, Nat.mod_eq_of_lt (by omega)]
  apply vnv_nat
  · rw [h1]; simp; omega
  · rw [h1, BitVec.toNat_ofInt]; omega
theorem of_ok (H : Heap) (k : Int) (h : 0 ≤ k ∧ k < 18446744073709551616) : NCall Try.prog 33 [.int .u64 k] H fun r => r = (vnv (ofV k), H) := by
  refine call_pure E0 mixed t33_ok (by kernel_rfl) vnv_lo ?_
  rw [nb_of k h]
  generalize hw : vnv (ofV k) = w
  simp only [t33]
  simp (disch := first | omega | (simp only [fsLen]; omega)) only [↓fsPre, fsPost, fsCond, fsGen, fsDefs, cls, eqVal, vbGen, fill_bits, reduceCtorEq, Nat.reduceAdd, Nat.reduceMul, Nat.reduceSub, Nat.reduceLT, Nat.reduceLeDiff, Nat.reduceEqDiff, Nat.reduceBEq, Nat.reduceBNe, Int.reduceLT, Int.reduceLE, Int.reduceEq, Int.reduceNe, Int.reduceAdd, Int.reduceSub, Int.reduceNeg, Int.reduceToNat, Int.reduceMul, ↓reduceIte, Int.reduceGT, Int.reduceGE]
  exact ⟨by rw [← hw]; exact ofV_nv h, _, rfl⟩

end Go.Proofs
