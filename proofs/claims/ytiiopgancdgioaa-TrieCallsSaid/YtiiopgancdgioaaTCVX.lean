/- Base, Val1, Val2, Val3, Val4, Val6, ValO in one text. -/
import Derived.Test.YtiiopgancdgioaaFsK
import Derived.Test.YtiiopgancdgioaaTCTab
import Derived.Test.YtiiopgancdgioaaFsI
import Derived.Test.YtiiopgancdgioaaVbE
import Derived.Test.YtiiopgancdgioaaVbB
set_option linter.unusedSimpArgs false
set_option linter.unusedVariables false
set_option maxRecDepth 10000
namespace Go.Proofs
open Go.Ns

theorem mixed : Try.prog.follows .mixedOrders = true := by kernel_rfl
noncomputable def E0 : Env := ⟨Try.prog, failS, failS_ok _, true⟩

theorem fill_bits : fill 128 (.bool false) = bitsC fun _ => false := bitsC_zero

theorem clamp_ok (H : Heap) (n : Int) : NCall Try.prog 43 [.int .i64 n] H fun r => r = (.int .i64 (clampN n : Nat), H) := by
  refine call_of E0 mixed t43_ok (by kernel_rfl) (by rintro q rfl; simp) ?_
  simp only [t43]
  simp (disch := first | omega | (simp only [fsLen]; omega)) only [↓fsPre, fsPost, fsCond, fsGen, fsDefs, cls, eqVal, vbGen, fill_bits, reduceCtorEq, Nat.reduceAdd, Nat.reduceMul, Nat.reduceSub, Nat.reduceLT, Nat.reduceLeDiff, Nat.reduceEqDiff, Nat.reduceBEq, Nat.reduceBNe, Int.reduceLT, Int.reduceLE, Int.reduceEq, Int.reduceNe, Int.reduceAdd, Int.reduceSub, Int.reduceNeg, Int.reduceToNat, Int.reduceMul, ↓reduceIte, Int.reduceGT, Int.reduceGE]
  congr 2
  unfold clampN
  split <;> split <;> omega
theorem within_ok (H : Heap) (n : Int) : NCall Try.prog 52 [.int .i64 n] H fun r => r = (.int .i64 (clampN n : Nat), H) := by
  refine call_of E0 mixed t52_ok (by kernel_rfl) (by rintro q rfl; simp) ?_
  simp only [t52]
  simp (disch := first | omega | (simp only [fsLen]; omega)) only [↓fsPre, fsPost, fsCond, fsGen, fsDefs, cls, eqVal, vbGen, fill_bits, reduceCtorEq, Nat.reduceAdd, Nat.reduceMul, Nat.reduceSub, Nat.reduceLT, Nat.reduceLeDiff, Nat.reduceEqDiff, Nat.reduceBEq, Nat.reduceBNe, Int.reduceLT, Int.reduceLE, Int.reduceEq, Int.reduceNe, Int.reduceAdd, Int.reduceSub, Int.reduceNeg, Int.reduceToNat, Int.reduceMul, ↓reduceIte, Int.reduceGT, Int.reduceGE]
  congr 2
  unfold clampN
  split <;> split <;> omega

theorem read_ok (H : Heap) (v : BitVec 128) : NCall Try.prog 34 [vnv v] H fun r => r = (.agg (bitsC v.getLsbD), H) := by
  refine call_pure E0 mixed t34_ok (by kernel_rfl) bitsC_lo ?_
  simp only [t34, fill_bits, vnv]
  simp (disch := first | omega | (simp only [fsLen]; omega)) only [↓fsPre, fsPost, fsCond, fsGen, fsDefs, cls, eqVal, vbGen, fill_bits, reduceCtorEq, Nat.reduceAdd, Nat.reduceMul, Nat.reduceSub, Nat.reduceLT, Nat.reduceLeDiff, Nat.reduceEqDiff, Nat.reduceBEq, Nat.reduceBNe, Int.reduceLT, Int.reduceLE, Int.reduceEq, Int.reduceNe, Int.reduceAdd, Int.reduceSub, Int.reduceNeg, Int.reduceToNat, Int.reduceMul, ↓reduceIte, Int.reduceGT, Int.reduceGE]
  refine wloop (fun j F h => F 1 = .ptr (some (H.length, 0)) ∧ F 2 = .ptr (some (H.length + 1, 0)) ∧ F 3 = .ptr (some (H.length + 2, 0)) ∧ F 4 = .int .i64 j ∧
    ∃ f, h = H ++ [some (.cells [nb (hiOf v), nb (loOf v)] false), some (.cells (bitsC fun _ => false) false), some (.cells (bitsC f) false)] ∧ ∀ i, i < 128 → f i = (decide (i < j ∨ 64 ≤ i ∧ i < 64 + j) && v.getLsbD i)) 64 ?_ ?_ ?_
  · simp (disch := first | omega | (simp only [fsLen]; omega)) only [↓fsPre, fsPost, fsCond, fsGen, fsDefs, cls, eqVal, vbGen, fill_bits, reduceCtorEq, Nat.reduceAdd, Nat.reduceMul, Nat.reduceSub, Nat.reduceLT, Nat.reduceLeDiff, Nat.reduceEqDiff, Nat.reduceBEq, Nat.reduceBNe, Int.reduceLT, Int.reduceLE, Int.reduceEq, Int.reduceNe, Int.reduceAdd, Int.reduceSub, Int.reduceNeg, Int.reduceToNat, Int.reduceMul, ↓reduceIte, Int.reduceGT, Int.reduceGE]
    exact ⟨_, rfl, fun i hi => by rw [decide_eq_false (by omega)]; rfl⟩
  · rintro j F h hj ⟨f1, f2, f3, f4, f, rfl, hf⟩
    simp (disch := first | omega | (simp only [fsLen]; omega)) only [↓fsPre, fsPost, fsCond, fsGen, fsDefs, cls, eqVal, vbGen, fill_bits, reduceCtorEq, Nat.reduceAdd, Nat.reduceMul, Nat.reduceSub, Nat.reduceLT, Nat.reduceLeDiff, Nat.reduceEqDiff, Nat.reduceBEq, Nat.reduceBNe, Int.reduceLT, Int.reduceLE, Int.reduceEq, Int.reduceNe, Int.reduceAdd, Int.reduceSub, Int.reduceNeg, Int.reduceToNat, Int.reduceMul, ↓reduceIte, Int.reduceGT, Int.reduceGE, f1, f2, f3, f4, loOf_get, hiOf_get]
    refine ⟨_, rfl, fun i hi => ?_⟩
    simp only [updB]
    by_cases h1 : i = j + 64
    · subst h1
      simp [hj, Nat.add_comm]
    · rw [if_neg h1]
      by_cases h2 : i = j
      · subst h2
        simp [hj]
      · rw [if_neg h2, hf i hi]
        congr 1
        simp only [decide_eq_decide]
        omega
  · rintro F h ⟨f1, f2, f3, f4, f, rfl, hf⟩
    simp (disch := first | omega | (simp only [fsLen]; omega)) only [↓fsPre, fsPost, fsCond, fsGen, fsDefs, cls, eqVal, vbGen, fill_bits, reduceCtorEq, Nat.reduceAdd, Nat.reduceMul, Nat.reduceSub, Nat.reduceLT, Nat.reduceLeDiff, Nat.reduceEqDiff, Nat.reduceBEq, Nat.reduceBNe, Int.reduceLT, Int.reduceLE, Int.reduceEq, Int.reduceNe, Int.reduceAdd, Int.reduceSub, Int.reduceNeg, Int.reduceToNat, Int.reduceMul, ↓reduceIte, Int.reduceGT, Int.reduceGE, f1, f2, f3, f4]
    refine ⟨congrArg _ (bitsC_congr fun i hi => ?_), _, rfl⟩
    rw [hf i hi]
    simp; omega

theorem make_ok (H : Heap) (f : Nat → Bool) : NCall Try.prog 35 [.agg (bitsC f)] H fun r => r = (vnv (ofB f 128), H) := by
  refine call_pure E0 mixed t35_ok (by kernel_rfl) vnv_lo ?_
  generalize hw : vnv (ofB f 128) = w
  simp only [t35, nb_zero]
  simp (disch := first | omega | (simp only [fsLen]; omega)) only [↓fsPre, fsPost, fsCond, fsGen, fsDefs, cls, eqVal, vbGen, fill_bits, reduceCtorEq, Nat.reduceAdd, Nat.reduceMul, Nat.reduceSub, Nat.reduceLT, Nat.reduceLeDiff, Nat.reduceEqDiff, Nat.reduceBEq, Nat.reduceBNe, Int.reduceLT, Int.reduceLE, Int.reduceEq, Int.reduceNe, Int.reduceAdd, Int.reduceSub, Int.reduceNeg, Int.reduceToNat, Int.reduceMul, ↓reduceIte, Int.reduceGT, Int.reduceGE]
  refine wloop (fun j F h => F 1 = .ptr (some (H.length, 0)) ∧ F 2 = .ptr (some (H.length + 1, 0)) ∧ F 3 = .ptr (some (H.length + 2, 0)) ∧ F 4 = .int .i64 j ∧
    ∃ x y, h = H ++ [some (.cells (bitsC f) false), some (.cells [nb 0#64, nb 0#64] false), some (.cells [nb x, nb y] false)] ∧ (∀ i, i < 64 → x.getLsbD i = (decide (i < j) && f (64 + i))) ∧ (∀ i, i < 64 → y.getLsbD i = (decide (i < j) && f i))) 64 ?_ ?_ ?_
  · simp (disch := first | omega | (simp only [fsLen]; omega)) only [↓fsPre, fsPost, fsCond, fsGen, fsDefs, cls, eqVal, vbGen, fill_bits, reduceCtorEq, Nat.reduceAdd, Nat.reduceMul, Nat.reduceSub, Nat.reduceLT, Nat.reduceLeDiff, Nat.reduceEqDiff, Nat.reduceBEq, Nat.reduceBNe, Int.reduceLT, Int.reduceLE, Int.reduceEq, Int.reduceNe, Int.reduceAdd, Int.reduceSub, Int.reduceNeg, Int.reduceToNat, Int.reduceMul, ↓reduceIte, Int.reduceGT, Int.reduceGE]
    exact ⟨_, _, rfl, by simp, by simp⟩
  · rintro j F h hj ⟨f1, f2, f3, f4, x, y, rfl, hx, hy⟩
    have key : ∀ (g : Nat → Bool) (z : BitVec 64) (b : Bool), g j = b → (∀ i, i < 64 → z.getLsbD i = (decide (i < j) && g i)) → ∀ i, i < 64 → (if b then z ||| (BitVec.ofInt 64 1 <<< j) else z).getLsbD i = (decide (i < j + 1) && g i) := by
      intro g z b hb hz i hi
      by_cases h1 : i = j
      · subst h1
        cases b
        · rw [if_neg (by simp), hz i hi, hb]; simp
        · rw [if_pos rfl, or_bit hi hi, hz i hi, hb]; simp
      · have : decide (i < j + 1) = decide (i < j) := by rw [decide_eq_decide]; omega
        rw [this, ← hz i hi]
        cases b
        · rw [if_neg (by simp)]
        · rw [if_pos rfl, or_bit hi hj]; simp [h1]
    simp (disch := first | omega | (simp only [fsLen]; omega)) only [↓fsPre, fsPost, fsCond, fsGen, fsDefs, cls, eqVal, vbGen, fill_bits, reduceCtorEq, Nat.reduceAdd, Nat.reduceMul, Nat.reduceSub, Nat.reduceLT, Nat.reduceLeDiff, Nat.reduceEqDiff, Nat.reduceBEq, Nat.reduceBNe, Int.reduceLT, Int.reduceLE, Int.reduceEq, Int.reduceNe, Int.reduceAdd, Int.reduceSub, Int.reduceNeg, Int.reduceToNat, Int.reduceMul, ↓reduceIte, Int.reduceGT, Int.reduceGE, f1, f2, f3, f4]
    refine condK_bool (fun e1 => ?_) (fun e1 => ?_)
    · simp (disch := first | omega | (simp only [fsLen]; omega)) only [↓fsPre, fsPost, fsCond, fsGen, fsDefs, cls, eqVal, vbGen, fill_bits, reduceCtorEq, Nat.reduceAdd, Nat.reduceMul, Nat.reduceSub, Nat.reduceLT, Nat.reduceLeDiff, Nat.reduceEqDiff, Nat.reduceBEq, Nat.reduceBNe, Int.reduceLT, Int.reduceLE, Int.reduceEq, Int.reduceNe, Int.reduceAdd, Int.reduceSub, Int.reduceNeg, Int.reduceToNat, Int.reduceMul, ↓reduceIte, Int.reduceGT, Int.reduceGE, f1, f2, f3, f4]
      refine condK_bool (fun e2 => ?_) (fun e2 => ?_)
      · simp (disch := first | omega | (simp only [fsLen]; omega)) only [↓fsPre, fsPost, fsCond, fsGen, fsDefs, cls, eqVal, vbGen, fill_bits, reduceCtorEq, Nat.reduceAdd, Nat.reduceMul, Nat.reduceSub, Nat.reduceLT, Nat.reduceLeDiff, Nat.reduceEqDiff, Nat.reduceBEq, Nat.reduceBNe, Int.reduceLT, Int.reduceLE, Int.reduceEq, Int.reduceNe, Int.reduceAdd, Int.reduceSub, Int.reduceNeg, Int.reduceToNat, Int.reduceMul, ↓reduceIte, Int.reduceGT, Int.reduceGE, f1, f2, f3, f4]
        exact ⟨_, _, rfl, key (fun i => f (64 + i)) x true (by rw [Nat.add_comm]; exact e2) hx, key f y true e1 hy⟩
      · simp (disch := first | omega | (simp only [fsLen]; omega)) only [↓fsPre, fsPost, fsCond, fsGen, fsDefs, cls, eqVal, vbGen, fill_bits, reduceCtorEq, Nat.reduceAdd, Nat.reduceMul, Nat.reduceSub, Nat.reduceLT, Nat.reduceLeDiff, Nat.reduceEqDiff, Nat.reduceBEq, Nat.reduceBNe, Int.reduceLT, Int.reduceLE, Int.reduceEq, Int.reduceNe, Int.reduceAdd, Int.reduceSub, Int.reduceNeg, Int.reduceToNat, Int.reduceMul, ↓reduceIte, Int.reduceGT, Int.reduceGE, f1, f2, f3, f4]
        exact ⟨_, _, rfl, key (fun i => f (64 + i)) x false (by rw [Nat.add_comm]; exact e2) hx, key f y true e1 hy⟩
    · simp (disch := first | omega | (simp only [fsLen]; omega)) only [↓fsPre, fsPost, fsCond, fsGen, fsDefs, cls, eqVal, vbGen, fill_bits, reduceCtorEq, Nat.reduceAdd, Nat.reduceMul, Nat.reduceSub, Nat.reduceLT, Nat.reduceLeDiff, Nat.reduceEqDiff, Nat.reduceBEq, Nat.reduceBNe, Int.reduceLT, Int.reduceLE, Int.reduceEq, Int.reduceNe, Int.reduceAdd, Int.reduceSub, Int.reduceNeg, Int.reduceToNat, Int.reduceMul, ↓reduceIte, Int.reduceGT, Int.reduceGE, f1, f2, f3, f4]
      refine condK_bool (fun e2 => ?_) (fun e2 => ?_)
      · simp (disch := first | omega | (simp only [fsLen]; omega)) only [↓fsPre, fsPost, fsCond, fsGen, fsDefs, cls, eqVal, vbGen, fill_bits, reduceCtorEq, Nat.reduceAdd, Nat.reduceMul, Nat.reduceSub, Nat.reduceLT, Nat.reduceLeDiff, Nat.reduceEqDiff, Nat.reduceBEq, Nat.reduceBNe, Int.reduceLT, Int.reduceLE, Int.reduceEq, Int.reduceNe, Int.reduceAdd, Int.reduceSub, Int.reduceNeg, Int.reduceToNat, Int.reduceMul, ↓reduceIte, Int.reduceGT, Int.reduceGE, f1, f2, f3, f4]
        exact ⟨_, _, rfl, key (fun i => f (64 + i)) x true (by rw [Nat.add_comm]; exact e2) hx, key f y false e1 hy⟩
      · simp (disch := first | omega | (simp only [fsLen]; omega)) only [↓fsPre, fsPost, fsCond, fsGen, fsDefs, cls, eqVal, vbGen, fill_bits, reduceCtorEq, Nat.reduceAdd, Nat.reduceMul, Nat.reduceSub, Nat.reduceLT, Nat.reduceLeDiff, Nat.reduceEqDiff, Nat.reduceBEq, Nat.reduceBNe, Int.reduceLT, Int.reduceLE, Int.reduceEq, Int.reduceNe, Int.reduceAdd, Int.reduceSub, Int.reduceNeg, Int.reduceToNat, Int.reduceMul, ↓reduceIte, Int.reduceGT, Int.reduceGE, f1, f2, f3, f4]
        exact ⟨_, _, rfl, key (fun i => f (64 + i)) x false (by rw [Nat.add_comm]; exact e2) hx, key f y false e1 hy⟩
  · rintro F h ⟨f1, f2, f3, f4, x, y, rfl, hx, hy⟩
    simp (disch := first | omega | (simp only [fsLen]; omega)) only [↓fsPre, fsPost, fsCond, fsGen, fsDefs, cls, eqVal, vbGen, fill_bits, reduceCtorEq, Nat.reduceAdd, Nat.reduceMul, Nat.reduceSub, Nat.reduceLT, Nat.reduceLeDiff, Nat.reduceEqDiff, Nat.reduceBEq, Nat.reduceBNe, Int.reduceLT, Int.reduceLE, Int.reduceEq, Int.reduceNe, Int.reduceAdd, Int.reduceSub, Int.reduceNeg, Int.reduceToNat, Int.reduceMul, ↓reduceIte, Int.reduceGT, Int.reduceGE, f1, f2, f3, f4]
    refine ⟨?_, _, rfl⟩
    rw [← hw]
    refine vnv_eq (fun i hi => ?_) (fun i hi => ?_)
    · rw [hx i hi, ofB_get]; simp [hi]; omega
    · rw [hy i hi, ofB_get]; simp [hi]; omega

theorem left_ok (H : Heap) (v : BitVec 128) (n : Int) (hn : -9223372036854775808 ≤ n ∧ n ≤ 9223372036854775807) : NCall Try.prog 58 [vnv v, .int .i64 n] H fun r => r = (vnv (v <<< n.toNat), H) := by
  refine call_pure E0 mixed t58_ok (by kernel_rfl) vnv_lo ?_
  generalize hw : vnv (v <<< n.toNat) = w
  simp only [t58, nb_zero, vnv]
  simp (disch := first | omega | (simp only [fsLen]; omega)) only [↓fsPre, fsPost, fsCond, fsGen, fsDefs, cls, eqVal, vbGen, fill_bits, reduceCtorEq, Nat.reduceAdd, Nat.reduceMul, Nat.reduceSub, Nat.reduceLT, Nat.reduceLeDiff, Nat.reduceEqDiff, Nat.reduceBEq, Nat.reduceBNe, Int.reduceLT, Int.reduceLE, Int.reduceEq, Int.reduceNe, Int.reduceAdd, Int.reduceSub, Int.reduceNeg, Int.reduceToNat, Int.reduceMul, ↓reduceIte, Int.reduceGT, Int.reduceGE]
  refine condK_dec (fun h0 => ?_) (fun h0 => ?_)
  · simp (disch := first | omega | (simp only [fsLen]; omega)) only [↓fsPre, fsPost, fsCond, fsGen, fsDefs, cls, eqVal, vbGen, fill_bits, reduceCtorEq, Nat.reduceAdd, Nat.reduceMul, Nat.reduceSub, Nat.reduceLT, Nat.reduceLeDiff, Nat.reduceEqDiff, Nat.reduceBEq, Nat.reduceBNe, Int.reduceLT, Int.reduceLE, Int.reduceEq, Int.reduceNe, Int.reduceAdd, Int.reduceSub, Int.reduceNeg, Int.reduceToNat, Int.reduceMul, ↓reduceIte, Int.reduceGT, Int.reduceGE]
    refine ⟨?_, _, rfl⟩
    rw [← hw, show n.toNat = 0 by omega]; simp [vnv]
  · simp (disch := first | omega | (simp only [fsLen]; omega)) only [↓fsPre, fsPost, fsCond, fsGen, fsDefs, cls, eqVal, vbGen, fill_bits, reduceCtorEq, Nat.reduceAdd, Nat.reduceMul, Nat.reduceSub, Nat.reduceLT, Nat.reduceLeDiff, Nat.reduceEqDiff, Nat.reduceBEq, Nat.reduceBNe, Int.reduceLT, Int.reduceLE, Int.reduceEq, Int.reduceNe, Int.reduceAdd, Int.reduceSub, Int.reduceNeg, Int.reduceToNat, Int.reduceMul, ↓reduceIte, Int.reduceGT, Int.reduceGE]
    refine condK_dec (fun h1 => ?_) (fun h1 => ?_)
    · simp (disch := first | omega | (simp only [fsLen]; omega)) only [↓fsPre, fsPost, fsCond, fsGen, fsDefs, cls, eqVal, vbGen, fill_bits, reduceCtorEq, Nat.reduceAdd, Nat.reduceMul, Nat.reduceSub, Nat.reduceLT, Nat.reduceLeDiff, Nat.reduceEqDiff, Nat.reduceBEq, Nat.reduceBNe, Int.reduceLT, Int.reduceLE, Int.reduceEq, Int.reduceNe, Int.reduceAdd, Int.reduceSub, Int.reduceNeg, Int.reduceToNat, Int.reduceMul, ↓reduceIte, Int.reduceGT, Int.reduceGE]
      refine ⟨?_, _, rfl⟩
      rw [← hw, show (n - 64).toNat = n.toNat - 64 by omega]
      exact vleft_ge (by omega)
    · simp (disch := first | omega | (simp only [fsLen]; omega)) only [↓fsPre, fsPost, fsCond, fsGen, fsDefs, cls, eqVal, vbGen, fill_bits, reduceCtorEq, Nat.reduceAdd, Nat.reduceMul, Nat.reduceSub, Nat.reduceLT, Nat.reduceLeDiff, Nat.reduceEqDiff, Nat.reduceBEq, Nat.reduceBNe, Int.reduceLT, Int.reduceLE, Int.reduceEq, Int.reduceNe, Int.reduceAdd, Int.reduceSub, Int.reduceNeg, Int.reduceToNat, Int.reduceMul, ↓reduceIte, Int.reduceGT, Int.reduceGE]
      refine ⟨?_, _, rfl⟩
      rw [← hw, show (64 - n).toNat = 64 - n.toNat by omega]
      exact vleft_lt (by omega)

theorem right_ok (H : Heap) (v : BitVec 128) (n : Int) (hn : -9223372036854775808 ≤ n ∧ n ≤ 9223372036854775807) : NCall Try.prog 55 [vnv v, .int .i64 n] H fun r => r = (vnv (v >>> n.toNat), H) := by
  refine call_pure E0 mixed t55_ok (by kernel_rfl) vnv_lo ?_
  generalize hw : vnv (v >>> n.toNat) = w
  simp only [t55, nb_zero, vnv]
  simp (disch := first | omega | (simp only [fsLen]; omega)) only [↓fsPre, fsPost, fsCond, fsGen, fsDefs, cls, eqVal, vbGen, fill_bits, reduceCtorEq, Nat.reduceAdd, Nat.reduceMul, Nat.reduceSub, Nat.reduceLT, Nat.reduceLeDiff, Nat.reduceEqDiff, Nat.reduceBEq, Nat.reduceBNe, Int.reduceLT, Int.reduceLE, Int.reduceEq, Int.reduceNe, Int.reduceAdd, Int.reduceSub, Int.reduceNeg, Int.reduceToNat, Int.reduceMul, ↓reduceIte, Int.reduceGT, Int.reduceGE]
  refine condK_dec (fun h0 => ?_) (fun h0 => ?_)
  · simp (disch := first | omega | (simp only [fsLen]; omega)) only [↓fsPre, fsPost, fsCond, fsGen, fsDefs, cls, eqVal, vbGen, fill_bits, reduceCtorEq, Nat.reduceAdd, Nat.reduceMul, Nat.reduceSub, Nat.reduceLT, Nat.reduceLeDiff, Nat.reduceEqDiff, Nat.reduceBEq, Nat.reduceBNe, Int.reduceLT, Int.reduceLE, Int.reduceEq, Int.reduceNe, Int.reduceAdd, Int.reduceSub, Int.reduceNeg, Int.reduceToNat, Int.reduceMul, ↓reduceIte, Int.reduceGT, Int.reduceGE]
    refine ⟨?_, _, rfl⟩
    rw [← hw, show n.toNat = 0 by omega]; simp [vnv]
  · simp (disch := first | omega | (simp only [fsLen]; omega)) only [↓fsPre, fsPost, fsCond, fsGen, fsDefs, cls, eqVal, vbGen, fill_bits, reduceCtorEq, Nat.reduceAdd, Nat.reduceMul, Nat.reduceSub, Nat.reduceLT, Nat.reduceLeDiff, Nat.reduceEqDiff, Nat.reduceBEq, Nat.reduceBNe, Int.reduceLT, Int.reduceLE, Int.reduceEq, Int.reduceNe, Int.reduceAdd, Int.reduceSub, Int.reduceNeg, Int.reduceToNat, Int.reduceMul, ↓reduceIte, Int.reduceGT, Int.reduceGE]
    refine condK_dec (fun h1 => ?_) (fun h1 => ?_)
    · simp (disch := first | omega | (simp only [fsLen]; omega)) only [↓fsPre, fsPost, fsCond, fsGen, fsDefs, cls, eqVal, vbGen, fill_bits, reduceCtorEq, Nat.reduceAdd, Nat.reduceMul, Nat.reduceSub, Nat.reduceLT, Nat.reduceLeDiff, Nat.reduceEqDiff, Nat.reduceBEq, Nat.reduceBNe, Int.reduceLT, Int.reduceLE, Int.reduceEq, Int.reduceNe, Int.reduceAdd, Int.reduceSub, Int.reduceNeg, Int.reduceToNat, Int.reduceMul, ↓reduceIte, Int.reduceGT, Int.reduceGE]
      refine ⟨?_, _, rfl⟩
      rw [← hw, show (n - 64).toNat = n.toNat - 64 by omega]
      exact vright_ge (by omega)
    · simp (disch := first | omega | (simp only [fsLen]; omega)) only [↓fsPre, fsPost, fsCond, fsGen, fsDefs, cls, eqVal, vbGen, fill_bits, reduceCtorEq, Nat.reduceAdd, Nat.reduceMul, Nat.reduceSub, Nat.reduceLT, Nat.reduceLeDiff, Nat.reduceEqDiff, Nat.reduceBEq, Nat.reduceBNe, Int.reduceLT, Int.reduceLE, Int.reduceEq, Int.reduceNe, Int.reduceAdd, Int.reduceSub, Int.reduceNeg, Int.reduceToNat, Int.reduceMul, ↓reduceIte, Int.reduceGT, Int.reduceGE]
      refine ⟨?_, _, rfl⟩
      rw [← hw, show (64 - n).toNat = 64 - n.toNat by omega]
      exact vright_lt (by omega)


theorem and_ok (H : Heap) (a b : BitVec 128) : NCall Try.prog 44 [vnv a, vnv b] H fun r => r = (vnv (a &&& b), H) := by
  refine call_pure E0 mixed t44_ok (by kernel_rfl) vnv_lo ?_
  generalize hw : vnv (a &&& b) = w
  simp only [t44, vnv]
  simp (disch := first | omega | (simp only [fsLen]; omega)) only [↓fsPre, fsPost, fsCond, fsGen, fsDefs, cls, eqVal, vbGen, fill_bits, reduceCtorEq, Nat.reduceAdd, Nat.reduceMul, Nat.reduceSub, Nat.reduceLT, Nat.reduceLeDiff, Nat.reduceEqDiff, Nat.reduceBEq, Nat.reduceBNe, Int.reduceLT, Int.reduceLE, Int.reduceEq, Int.reduceNe, Int.reduceAdd, Int.reduceSub, Int.reduceNeg, Int.reduceToNat, Int.reduceMul, ↓reduceIte, Int.reduceGT, Int.reduceGE]
  refine ⟨?_, _, rfl⟩
  rw [← hw]
  refine vnv_eq (fun i hi => ?_) (fun i hi => ?_)
  · simp only [BitVec.getLsbD_and, hiOf_get]; simp [hi]
  · simp only [BitVec.getLsbD_and, loOf_get]; simp [hi]

theorem or_ok (H : Heap) (a b : BitVec 128) : NCall Try.prog 57 [vnv a, vnv b] H fun r => r = (vnv (a ||| b), H) := by
  refine call_pure E0 mixed t57_ok (by kernel_rfl) vnv_lo ?_
  generalize hw : vnv (a ||| b) = w
  simp only [t57, vnv]
  simp (disch := first | omega | (simp only [fsLen]; omega)) only [↓fsPre, fsPost, fsCond, fsGen, fsDefs, cls, eqVal, vbGen, fill_bits, reduceCtorEq, Nat.reduceAdd, Nat.reduceMul, Nat.reduceSub, Nat.reduceLT, Nat.reduceLeDiff, Nat.reduceEqDiff, Nat.reduceBEq, Nat.reduceBNe, Int.reduceLT, Int.reduceLE, Int.reduceEq, Int.reduceNe, Int.reduceAdd, Int.reduceSub, Int.reduceNeg, Int.reduceToNat, Int.reduceMul, ↓reduceIte, Int.reduceGT, Int.reduceGE]
  refine ⟨?_, _, rfl⟩
  rw [← hw]
  refine vnv_eq (fun i hi => ?_) (fun i hi => ?_)
  · simp only [BitVec.getLsbD_or, hiOf_get]; simp [hi]
  · simp only [BitVec.getLsbD_or, loOf_get]; simp [hi]

theorem xor_ok (H : Heap) (a b : BitVec 128) : NCall Try.prog 53 [vnv a, vnv b] H fun r => r = (vnv (a ^^^ b), H) := by
  refine call_pure E0 mixed t53_ok (by kernel_rfl) vnv_lo ?_
  generalize hw : vnv (a ^^^ b) = w
  simp only [t53, vnv]
  simp (disch := first | omega | (simp only [fsLen]; omega)) only [↓fsPre, fsPost, fsCond, fsGen, fsDefs, cls, eqVal, vbGen, fill_bits, reduceCtorEq, Nat.reduceAdd, Nat.reduceMul, Nat.reduceSub, Nat.reduceLT, Nat.reduceLeDiff, Nat.reduceEqDiff, Nat.reduceBEq, Nat.reduceBNe, Int.reduceLT, Int.reduceLE, Int.reduceEq, Int.reduceNe, Int.reduceAdd, Int.reduceSub, Int.reduceNeg, Int.reduceToNat, Int.reduceMul, ↓reduceIte, Int.reduceGT, Int.reduceGE]
  refine ⟨?_, _, rfl⟩
  rw [← hw]
  refine vnv_eq (fun i hi => ?_) (fun i hi => ?_)
  · simp only [BitVec.getLsbD_xor, hiOf_get]; simp [hi]
  · simp only [BitVec.getLsbD_xor, loOf_get]; simp [hi]

theorem rand_ok (H : Heap) (a b : BitVec 128) : NCall Try.prog 27 [vnv a, vnv b] H fun r => r = (vnv (a &&& b), H) := by
  refine call_pure E0 mixed t27_ok (by kernel_rfl) vnv_lo ?_
  have ha := fun H => read_ok H a
  have hb := fun H => read_ok H b
  generalize hw : vnv (a &&& b) = w
  simp only [t27, vnv] at ha hb ⊢
  simp (disch := first | omega | (simp only [fsLen]; omega)) only [↓fsPre, fsPost, fsCond, fsGen, fsDefs, cls, eqVal, vbGen, fill_bits, reduceCtorEq, Nat.reduceAdd, Nat.reduceMul, Nat.reduceSub, Nat.reduceLT, Nat.reduceLeDiff, Nat.reduceEqDiff, Nat.reduceBEq, Nat.reduceBNe, Int.reduceLT, Int.reduceLE, Int.reduceEq, Int.reduceNe, Int.reduceAdd, Int.reduceSub, Int.reduceNeg, Int.reduceToNat, Int.reduceMul, ↓reduceIte, Int.reduceGT, Int.reduceGE]
  refine callDT_one (ha _) rfl ?_
  simp (disch := first | omega | (simp only [fsLen]; omega)) only [↓fsPre, fsPost, fsCond, fsGen, fsDefs, cls, eqVal, vbGen, fill_bits, reduceCtorEq, Nat.reduceAdd, Nat.reduceMul, Nat.reduceSub, Nat.reduceLT, Nat.reduceLeDiff, Nat.reduceEqDiff, Nat.reduceBEq, Nat.reduceBNe, Int.reduceLT, Int.reduceLE, Int.reduceEq, Int.reduceNe, Int.reduceAdd, Int.reduceSub, Int.reduceNeg, Int.reduceToNat, Int.reduceMul, ↓reduceIte, Int.reduceGT, Int.reduceGE]
  refine callDT_one (hb _) rfl ?_
  simp (disch := first | omega | (simp only [fsLen]; omega)) only [↓fsPre, fsPost, fsCond, fsGen, fsDefs, cls, eqVal, vbGen, fill_bits, reduceCtorEq, Nat.reduceAdd, Nat.reduceMul, Nat.reduceSub, Nat.reduceLT, Nat.reduceLeDiff, Nat.reduceEqDiff, Nat.reduceBEq, Nat.reduceBNe, Int.reduceLT, Int.reduceLE, Int.reduceEq, Int.reduceNe, Int.reduceAdd, Int.reduceSub, Int.reduceNeg, Int.reduceToNat, Int.reduceMul, ↓reduceIte, Int.reduceGT, Int.reduceGE]
  refine wloop (fun j F h => F 2 = .ptr (some (H.length, 0)) ∧ F 3 = .ptr (some (H.length + 1, 0)) ∧ F 4 = .ptr (some (H.length + 2, 0)) ∧ F 5 = .ptr (some (H.length + 3, 0)) ∧ F 6 = .ptr (some (H.length + 4, 0)) ∧ F 12 = .int .i64 j ∧
    ∃ f, h = H ++ [some (.cells [nb (hiOf a), nb (loOf a)] false), some (.cells [nb (hiOf b), nb (loOf b)] false), some (.cells [nb 0#64, nb 0#64] false), some (.cells (bitsC f) false), some (.cells (bitsC b.getLsbD) false)] ∧ ∀ i, i < 128 → f i = if i < j then (a &&& b).getLsbD i else a.getLsbD i) 128 ?_ ?_ ?_
  · simp (disch := first | omega | (simp only [fsLen]; omega)) only [↓fsPre, fsPost, fsCond, fsGen, fsDefs, cls, eqVal, vbGen, fill_bits, reduceCtorEq, Nat.reduceAdd, Nat.reduceMul, Nat.reduceSub, Nat.reduceLT, Nat.reduceLeDiff, Nat.reduceEqDiff, Nat.reduceBEq, Nat.reduceBNe, Int.reduceLT, Int.reduceLE, Int.reduceEq, Int.reduceNe, Int.reduceAdd, Int.reduceSub, Int.reduceNeg, Int.reduceToNat, Int.reduceMul, ↓reduceIte, Int.reduceGT, Int.reduceGE]
    exact ⟨_, rfl, fun i hi => by simp⟩
  · rintro j F h hj ⟨f2, f3, f4, f5, f6, f12, f, rfl, hf⟩
    have e0 := hf j hj
    rw [if_neg (Nat.lt_irrefl j)] at e0
    cases ea : a.getLsbD j with
    | false =>
      rw [ea] at e0
      simp (disch := first | omega | (simp only [fsLen]; omega)) only [↓fsPre, fsPost, fsCond, fsGen, fsDefs, cls, eqVal, vbGen, fill_bits, reduceCtorEq, Nat.reduceAdd, Nat.reduceMul, Nat.reduceSub, Nat.reduceLT, Nat.reduceLeDiff, Nat.reduceEqDiff, Nat.reduceBEq, Nat.reduceBNe, Int.reduceLT, Int.reduceLE, Int.reduceEq, Int.reduceNe, Int.reduceAdd, Int.reduceSub, Int.reduceNeg, Int.reduceToNat, Int.reduceMul, ↓reduceIte, Int.reduceGT, Int.reduceGE, f2, f3, f4, f5, f6, f12, e0]
      refine ⟨_, rfl, fun i hi => ?_⟩
      simp only [updB]
      by_cases h1 : i = j
      · subst h1; simp [ea]
      · rw [if_neg h1, hf i hi]; simp only [show (i < j + 1) = (i < j) from propext (by omega)]
    | true =>
      rw [ea] at e0
      simp (disch := first | omega | (simp only [fsLen]; omega)) only [↓fsPre, fsPost, fsCond, fsGen, fsDefs, cls, eqVal, vbGen, fill_bits, reduceCtorEq, Nat.reduceAdd, Nat.reduceMul, Nat.reduceSub, Nat.reduceLT, Nat.reduceLeDiff, Nat.reduceEqDiff, Nat.reduceBEq, Nat.reduceBNe, Int.reduceLT, Int.reduceLE, Int.reduceEq, Int.reduceNe, Int.reduceAdd, Int.reduceSub, Int.reduceNeg, Int.reduceToNat, Int.reduceMul, ↓reduceIte, Int.reduceGT, Int.reduceGE, f2, f3, f4, f5, f6, f12, e0]
      refine ⟨_, rfl, fun i hi => ?_⟩
      simp only [updB]
      by_cases h1 : i = j
      · subst h1; simp [ea]
      · rw [if_neg h1, hf i hi]; simp only [show (i < j + 1) = (i < j) from propext (by omega)]
  · rintro F h ⟨f2, f3, f4, f5, f6, f12, f, rfl, hf⟩
    simp (disch := first | omega | (simp only [fsLen]; omega)) only [↓fsPre, fsPost, fsCond, fsGen, fsDefs, cls, eqVal, vbGen, fill_bits, reduceCtorEq, Nat.reduceAdd, Nat.reduceMul, Nat.reduceSub, Nat.reduceLT, Nat.reduceLeDiff, Nat.reduceEqDiff, Nat.reduceBEq, Nat.reduceBNe, Int.reduceLT, Int.reduceLE, Int.reduceEq, Int.reduceNe, Int.reduceAdd, Int.reduceSub, Int.reduceNeg, Int.reduceToNat, Int.reduceMul, ↓reduceIte, Int.reduceGT, Int.reduceGE, f2, f3, f4, f5, f6, f12]
    refine callT_one (make_ok _ f) rfl ?_
    simp (disch := first | omega | (simp only [fsLen]; omega)) only [↓fsPre, fsPost, fsCond, fsGen, fsDefs, cls, eqVal, vbGen, fill_bits, reduceCtorEq, Nat.reduceAdd, Nat.reduceMul, Nat.reduceSub, Nat.reduceLT, Nat.reduceLeDiff, Nat.reduceEqDiff, Nat.reduceBEq, Nat.reduceBNe, Int.reduceLT, Int.reduceLE, Int.reduceEq, Int.reduceNe, Int.reduceAdd, Int.reduceSub, Int.reduceNeg, Int.reduceToNat, Int.reduceMul, ↓reduceIte, Int.reduceGT, Int.reduceGE, vnv, f4]
    refine ⟨?_, _, rfl⟩
    rw [← hw]
    exact congrArg vnv (ofB_eq fun i hi => by rw [hf i hi, if_pos hi])

theorem rxor_ok (H : Heap) (a b : BitVec 128) : NCall Try.prog 13 [vnv a, vnv b] H fun r => r = (vnv (a ^^^ b), H) := by
  refine call_pure E0 mixed t13_ok (by kernel_rfl) vnv_lo ?_
  have ha := fun H => read_ok H a
  have hb := fun H => read_ok H b
  generalize hw : vnv (a ^^^ b) = w
  simp only [t13, vnv] at ha hb ⊢
  simp (disch := first | omega | (simp only [fsLen]; omega)) only [↓fsPre, fsPost, fsCond, fsGen, fsDefs, cls, eqVal, vbGen, fill_bits, reduceCtorEq, Nat.reduceAdd, Nat.reduceMul, Nat.reduceSub, Nat.reduceLT, Nat.reduceLeDiff, Nat.reduceEqDiff, Nat.reduceBEq, Nat.reduceBNe, Int.reduceLT, Int.reduceLE, Int.reduceEq, Int.reduceNe, Int.reduceAdd, Int.reduceSub, Int.reduceNeg, Int.reduceToNat, Int.reduceMul, ↓reduceIte, Int.reduceGT, Int.reduceGE]
  refine callDT_one (ha _) rfl ?_
  simp (disch := first | omega | (simp only [fsLen]; omega)) only [↓fsPre, fsPost, fsCond, fsGen, fsDefs, cls, eqVal, vbGen, fill_bits, reduceCtorEq, Nat.reduceAdd, Nat.reduceMul, Nat.reduceSub, Nat.reduceLT, Nat.reduceLeDiff, Nat.reduceEqDiff, Nat.reduceBEq, Nat.reduceBNe, Int.reduceLT, Int.reduceLE, Int.reduceEq, Int.reduceNe, Int.reduceAdd, Int.reduceSub, Int.reduceNeg, Int.reduceToNat, Int.reduceMul, ↓reduceIte, Int.reduceGT, Int.reduceGE]
  refine callDT_one (hb _) rfl ?_
  simp (disch := first | omega | (simp only [fsLen]; omega)) only [↓fsPre, fsPost, fsCond, fsGen, fsDefs, cls, eqVal, vbGen, fill_bits, reduceCtorEq, Nat.reduceAdd, Nat.reduceMul, Nat.reduceSub, Nat.reduceLT, Nat.reduceLeDiff, Nat.reduceEqDiff, Nat.reduceBEq, Nat.reduceBNe, Int.reduceLT, Int.reduceLE, Int.reduceEq, Int.reduceNe, Int.reduceAdd, Int.reduceSub, Int.reduceNeg, Int.reduceToNat, Int.reduceMul, ↓reduceIte, Int.reduceGT, Int.reduceGE]
  refine wloop (fun j F h => F 2 = .ptr (some (H.length, 0)) ∧ F 3 = .ptr (some (H.length + 1, 0)) ∧ F 4 = .ptr (some (H.length + 2, 0)) ∧ F 5 = .ptr (some (H.length + 3, 0)) ∧ F 6 = .ptr (some (H.length + 4, 0)) ∧ F 12 = .int .i64 j ∧
    ∃ f, h = H ++ [some (.cells [nb (hiOf a), nb (loOf a)] false), some (.cells [nb (hiOf b), nb (loOf b)] false), some (.cells [nb 0#64, nb 0#64] false), some (.cells (bitsC f) false), some (.cells (bitsC b.getLsbD) false)] ∧ ∀ i, i < 128 → f i = if i < j then (a ^^^ b).getLsbD i else a.getLsbD i) 128 ?_ ?_ ?_
  · simp (disch := first | omega | (simp only [fsLen]; omega)) only [↓fsPre, fsPost, fsCond, fsGen, fsDefs, cls, eqVal, vbGen, fill_bits, reduceCtorEq, Nat.reduceAdd, Nat.reduceMul, Nat.reduceSub, Nat.reduceLT, Nat.reduceLeDiff, Nat.reduceEqDiff, Nat.reduceBEq, Nat.reduceBNe, Int.reduceLT, Int.reduceLE, Int.reduceEq, Int.reduceNe, Int.reduceAdd, Int.reduceSub, Int.reduceNeg, Int.reduceToNat, Int.reduceMul, ↓reduceIte, Int.reduceGT, Int.reduceGE]
    exact ⟨_, rfl, fun i hi => by simp⟩
  · rintro j F h hj ⟨f2, f3, f4, f5, f6, f12, f, rfl, hf⟩
    have e0 := hf j hj
    rw [if_neg (Nat.lt_irrefl j)] at e0
    simp (disch := first | omega | (simp only [fsLen]; omega)) only [↓fsPre, fsPost, fsCond, fsGen, fsDefs, cls, eqVal, vbGen, fill_bits, reduceCtorEq, Nat.reduceAdd, Nat.reduceMul, Nat.reduceSub, Nat.reduceLT, Nat.reduceLeDiff, Nat.reduceEqDiff, Nat.reduceBEq, Nat.reduceBNe, Int.reduceLT, Int.reduceLE, Int.reduceEq, Int.reduceNe, Int.reduceAdd, Int.reduceSub, Int.reduceNeg, Int.reduceToNat, Int.reduceMul, ↓reduceIte, Int.reduceGT, Int.reduceGE, f2, f3, f4, f5, f6, f12, e0]
    refine ⟨_, rfl, fun i hi => ?_⟩
    simp only [updB]
    by_cases h1 : i = j
    · subst h1; simp; cases a.getLsbD i <;> cases b.getLsbD i <;> rfl
    · rw [if_neg h1, hf i hi]; simp only [show (i < j + 1) = (i < j) from propext (by omega)]
  · rintro F h ⟨f2, f3, f4, f5, f6, f12, f, rfl, hf⟩
    simp (disch := first | omega | (simp only [fsLen]; omega)) only [↓fsPre, fsPost, fsCond, fsGen, fsDefs, cls, eqVal, vbGen, fill_bits, reduceCtorEq, Nat.reduceAdd, Nat.reduceMul, Nat.reduceSub, Nat.reduceLT, Nat.reduceLeDiff, Nat.reduceEqDiff, Nat.reduceBEq, Nat.reduceBNe, Int.reduceLT, Int.reduceLE, Int.reduceEq, Int.reduceNe, Int.reduceAdd, Int.reduceSub, Int.reduceNeg, Int.reduceToNat, Int.reduceMul, ↓reduceIte, Int.reduceGT, Int.reduceGE, f2, f3, f4, f5, f6, f12]
    refine callT_one (make_ok _ f) rfl ?_
    simp (disch := first | omega | (simp only [fsLen]; omega)) only [↓fsPre, fsPost, fsCond, fsGen, fsDefs, cls, eqVal, vbGen, fill_bits, reduceCtorEq, Nat.reduceAdd, Nat.reduceMul, Nat.reduceSub, Nat.reduceLT, Nat.reduceLeDiff, Nat.reduceEqDiff, Nat.reduceBEq, Nat.reduceBNe, Int.reduceLT, Int.reduceLE, Int.reduceEq, Int.reduceNe, Int.reduceAdd, Int.reduceSub, Int.reduceNeg, Int.reduceToNat, Int.reduceMul, ↓reduceIte, Int.reduceGT, Int.reduceGE, vnv, f4]
    refine ⟨?_, _, rfl⟩
    rw [← hw]
    exact congrArg vnv (ofB_eq fun i hi => by rw [hf i hi, if_pos hi])


theorem ones_ok (H : Heap) (n : Int) : NCall Try.prog 54 [.int .i64 n] H fun r => r = (vnv (onesV n), H) := by
  refine call_pure E0 mixed t54_ok (by kernel_rfl) vnv_lo ?_
  have hc := clampN_le n
  have hr := fun H => right_ok H (BitVec.allOnes 128) (128 - clampN n) (by omega)
  have ho : vnv (BitVec.allOnes 128) = .agg [.int .u64 18446744073709551615, .int .u64 18446744073709551615] := by kernel_rfl
  rw [ho] at hr
  simp only [t54]
  simp (disch := first | omega | (simp only [fsLen]; omega)) only [↓fsPre, fsPost, fsCond, fsGen, fsDefs, cls, eqVal, vbGen, fill_bits, reduceCtorEq, Nat.reduceAdd, Nat.reduceMul, Nat.reduceSub, Nat.reduceLT, Nat.reduceLeDiff, Nat.reduceEqDiff, Nat.reduceBEq, Nat.reduceBNe, Int.reduceLT, Int.reduceLE, Int.reduceEq, Int.reduceNe, Int.reduceAdd, Int.reduceSub, Int.reduceNeg, Int.reduceToNat, Int.reduceMul, ↓reduceIte, Int.reduceGT, Int.reduceGE]
  refine callT_one (within_ok _ n) rfl ?_
  simp (disch := first | omega | (simp only [fsLen]; omega)) only [↓fsPre, fsPost, fsCond, fsGen, fsDefs, cls, eqVal, vbGen, fill_bits, reduceCtorEq, Nat.reduceAdd, Nat.reduceMul, Nat.reduceSub, Nat.reduceLT, Nat.reduceLeDiff, Nat.reduceEqDiff, Nat.reduceBEq, Nat.reduceBNe, Int.reduceLT, Int.reduceLE, Int.reduceEq, Int.reduceNe, Int.reduceAdd, Int.reduceSub, Int.reduceNeg, Int.reduceToNat, Int.reduceMul, ↓reduceIte, Int.reduceGT, Int.reduceGE]
  refine callT_one (hr _) rfl ?_
  generalize hw : vnv (onesV n) = w
  simp (disch := first | omega | (simp only [fsLen]; omega)) only [↓fsPre, fsPost, fsCond, fsGen, fsDefs, cls, eqVal, vbGen, fill_bits, reduceCtorEq, Nat.reduceAdd, Nat.reduceMul, Nat.reduceSub, Nat.reduceLT, Nat.reduceLeDiff, Nat.reduceEqDiff, Nat.reduceBEq, Nat.reduceBNe, Int.reduceLT, Int.reduceLE, Int.reduceEq, Int.reduceNe, Int.reduceAdd, Int.reduceSub, Int.reduceNeg, Int.reduceToNat, Int.reduceMul, ↓reduceIte, Int.reduceGT, Int.reduceGE, vnv]
  refine ⟨?_, _, rfl⟩
  rw [← hw]
  refine congrArg vnv ?_
  apply BitVec.eq_of_getLsbD_eq
  intro i hi
  rw [onesV_get hi, BitVec.getLsbD_ushiftRight, BitVec.getLsbD_allOnes, decide_eq_decide]
  omega

def notV (a : BitVec 128) (n : Int) : BitVec 128 := onesV n &&& ~~~ a
/-- The value of 'n' ones at the top of so many bits. -/
def leadV (k n : Int) : BitVec 128 := ofB (fun i => decide (clampN k - (max 0 (min n (clampN k))).toNat ≤ i ∧ i < clampN k)) 128
theorem lead_ok (H : Heap) (k n : Int) : NCall Try.prog 45 [.int .i64 k, .int .i64 n] H fun r => r = (vnv (leadV k n), H) := by
  refine call_pure E0 mixed t45_ok (by kernel_rfl) vnv_lo ?_
  have hc := clampN_le k
  have ho1 := fun H => ones_ok H (clampN k)
  have hm : ∀ c : Nat, (if (c : Int) < (if 0 < n then n else 0) then (c : Int) else (if 0 < n then n else 0)) = ((max 0 (min n c)).toNat : Nat) := by
    intro c
    split <;> split <;> omega
  have ho2 := fun H => ones_ok H ((clampN k : Int) - ((max 0 (min n (clampN k))).toNat : Nat))
  have hx := fun H => xor_ok H (onesV (clampN k)) (onesV ((clampN k : Int) - ((max 0 (min n (clampN k))).toNat : Nat)))
  have hml : (max 0 (min n (clampN k))).toNat ≤ clampN k := by omega
  have hw0 : vnv (onesV (clampN k) ^^^ onesV ((clampN k : Int) - ((max 0 (min n (clampN k))).toNat : Nat))) = vnv (leadV k n) := by
    refine congrArg vnv (ofB_eq fun i hi => ?_).symm
    have h1 : clampN (clampN k : Int) = clampN k := by unfold clampN; omega
    have h2 : clampN ((clampN k : Int) - ((max 0 (min n (clampN k))).toNat : Nat)) = clampN k - (max 0 (min n (clampN k))).toNat := by
      generalize clampN k = c at *
      unfold clampN; omega
    rw [BitVec.getLsbD_xor, onesV_get hi, onesV_get hi, h1, h2]
    generalize (max 0 (min n (clampN k))).toNat = m at *
    by_cases g1 : i < clampN k
    · by_cases g2 : i < clampN k - m
      · simp [g1, g2]; omega
      · simp [g1, g2]; omega
    · simp [g1]; omega
  generalize hw : vnv (leadV k n) = w at *
  have hm2 := hm (clampN k)
  simp only [t45, vnv] at ho1 ho2 hx ⊢
  generalize (max 0 (min n (clampN k))).toNat = m at *
  simp (disch := first | omega | (simp only [fsLen]; omega)) only [↓fsPre, fsPost, fsCond, fsGen, fsDefs, cls, eqVal, vbGen, fill_bits, reduceCtorEq, Nat.reduceAdd, Nat.reduceMul, Nat.reduceSub, Nat.reduceLT, Nat.reduceLeDiff, Nat.reduceEqDiff, Nat.reduceBEq, Nat.reduceBNe, Int.reduceLT, Int.reduceLE, Int.reduceEq, Int.reduceNe, Int.reduceAdd, Int.reduceSub, Int.reduceNeg, Int.reduceToNat, Int.reduceMul, ↓reduceIte, Int.reduceGT, Int.reduceGE]
  refine callT_one (within_ok _ k) rfl ?_
  generalize clampN k = c at *
  simp (disch := first | omega | (simp only [fsLen]; omega)) only [↓fsPre, fsPost, fsCond, fsGen, fsDefs, cls, eqVal, vbGen, fill_bits, reduceCtorEq, Nat.reduceAdd, Nat.reduceMul, Nat.reduceSub, Nat.reduceLT, Nat.reduceLeDiff, Nat.reduceEqDiff, Nat.reduceBEq, Nat.reduceBNe, Int.reduceLT, Int.reduceLE, Int.reduceEq, Int.reduceNe, Int.reduceAdd, Int.reduceSub, Int.reduceNeg, Int.reduceToNat, Int.reduceMul, ↓reduceIte, Int.reduceGT, Int.reduceGE, hm2]
  refine callT_one (ho1 _) rfl ?_
  simp (disch := first | omega | (simp only [fsLen]; omega)) only [↓fsPre, fsPost, fsCond, fsGen, fsDefs, cls, eqVal, vbGen, fill_bits, reduceCtorEq, Nat.reduceAdd, Nat.reduceMul, Nat.reduceSub, Nat.reduceLT, Nat.reduceLeDiff, Nat.reduceEqDiff, Nat.reduceBEq, Nat.reduceBNe, Int.reduceLT, Int.reduceLE, Int.reduceEq, Int.reduceNe, Int.reduceAdd, Int.reduceSub, Int.reduceNeg, Int.reduceToNat, Int.reduceMul, ↓reduceIte, Int.reduceGT, Int.reduceGE, hm2]
  refine callT_one (ho2 _) rfl ?_
  simp (disch := first | omega | (simp only [fsLen]; omega)) only [↓fsPre, fsPost, fsCond, fsGen, fsDefs, cls, eqVal, vbGen, fill_bits, reduceCtorEq, Nat.reduceAdd, Nat.reduceMul, Nat.reduceSub, Nat.reduceLT, Nat.reduceLeDiff, Nat.reduceEqDiff, Nat.reduceBEq, Nat.reduceBNe, Int.reduceLT, Int.reduceLE, Int.reduceEq, Int.reduceNe, Int.reduceAdd, Int.reduceSub, Int.reduceNeg, Int.reduceToNat, Int.reduceMul, ↓reduceIte, Int.reduceGT, Int.reduceGE, hm2]
  refine callT_one (hx _) rfl ?_
  simp (disch := first | omega | (simp only [fsLen]; omega)) only [↓fsPre, fsPost, fsCond, fsGen, fsDefs, cls, eqVal, vbGen, fill_bits, reduceCtorEq, Nat.reduceAdd, Nat.reduceMul, Nat.reduceSub, Nat.reduceLT, Nat.reduceLeDiff, Nat.reduceEqDiff, Nat.reduceBEq, Nat.reduceBNe, Int.reduceLT, Int.reduceLE, Int.reduceEq, Int.reduceNe, Int.reduceAdd, Int.reduceSub, Int.reduceNeg, Int.reduceToNat, Int.reduceMul, ↓reduceIte, Int.reduceGT, Int.reduceGE]
  exact ⟨hw0, _, rfl⟩

theorem rlead_ok (H : Heap) (k n : Int) : NCall Try.prog 28 [.int .i64 k, .int .i64 n] H fun r => r = (vnv (leadV k n), H) := by
  refine call_pure E0 mixed t28_ok (by kernel_rfl) vnv_lo ?_
  have hc := clampN_le k
  have hcl := fun H => clamp_ok H k
  have hm : ∀ c : Nat, (if 0 < (if (c : Int) < n then (c : Int) else n) then (if (c : Int) < n then (c : Int) else n) else 0) = ((max 0 (min n c)).toNat : Nat) := by
    intro c
    split <;> split <;> omega
  have hml : (max 0 (min n (clampN k))).toNat ≤ clampN k := by omega
  generalize hw : vnv (leadV k n) = w
  unfold leadV at hw
  have hm2 := hm (clampN k)
  simp only [t28]
  generalize (max 0 (min n (clampN k))).toNat = m at *
  simp (disch := first | omega | (simp only [fsLen]; omega)) only [↓fsPre, fsPost, fsCond, fsGen, fsDefs, cls, eqVal, vbGen, fill_bits, reduceCtorEq, Nat.reduceAdd, Nat.reduceMul, Nat.reduceSub, Nat.reduceLT, Nat.reduceLeDiff, Nat.reduceEqDiff, Nat.reduceBEq, Nat.reduceBNe, Int.reduceLT, Int.reduceLE, Int.reduceEq, Int.reduceNe, Int.reduceAdd, Int.reduceSub, Int.reduceNeg, Int.reduceToNat, Int.reduceMul, ↓reduceIte, Int.reduceGT, Int.reduceGE]
  refine callT_one (hcl _) rfl ?_
  generalize clampN k = c at *
  obtain ⟨s, rfl⟩ : ∃ s, c = s + m := ⟨c - m, by omega⟩
  simp only [Int.natCast_add] at hm2
  have e3 : (s : Int) + m - m = s := by omega
  simp (disch := first | omega | (simp only [fsLen]; omega)) only [↓fsPre, fsPost, fsCond, fsGen, fsDefs, cls, eqVal, vbGen, fill_bits, reduceCtorEq, Nat.reduceAdd, Nat.reduceMul, Nat.reduceSub, Nat.reduceLT, Nat.reduceLeDiff, Nat.reduceEqDiff, Nat.reduceBEq, Nat.reduceBNe, Int.reduceLT, Int.reduceLE, Int.reduceEq, Int.reduceNe, Int.reduceAdd, Int.reduceSub, Int.reduceNeg, Int.reduceToNat, Int.reduceMul, ↓reduceIte, Int.reduceGT, Int.reduceGE, hm2, e3]
  refine wloop (fun j F h => F 0 = .int .i64 (s + m : Nat) ∧ F 4 = .ptr (some (H.length, 0)) ∧ F 5 = .ptr (some (H.length + 1, 0)) ∧ F 6 = .int .i64 (s + j : Nat) ∧
    ∃ f, h = H ++ [some (.cells [nb 0#64, nb 0#64] false), some (.cells (bitsC f) false)] ∧ ∀ i, i < 128 → f i = decide (s ≤ i ∧ i < s + j)) m ?_ ?_ ?_
  · simp (disch := first | omega | (simp only [fsLen]; omega)) only [↓fsPre, fsPost, fsCond, fsGen, fsDefs, cls, eqVal, vbGen, fill_bits, reduceCtorEq, Nat.reduceAdd, Nat.reduceMul, Nat.reduceSub, Nat.reduceLT, Nat.reduceLeDiff, Nat.reduceEqDiff, Nat.reduceBEq, Nat.reduceBNe, Int.reduceLT, Int.reduceLE, Int.reduceEq, Int.reduceNe, Int.reduceAdd, Int.reduceSub, Int.reduceNeg, Int.reduceToNat, Int.reduceMul, ↓reduceIte, Int.reduceGT, Int.reduceGE]
    exact ⟨_, rfl, fun i hi => by rw [decide_eq_false (by omega)]⟩
  · rintro j F h hj ⟨f0, f4, f5, f6, f, rfl, hf⟩
    have e2 : ((s : Int) + j).toNat = s + j := by omega
    simp (disch := first | omega | (simp only [fsLen]; omega)) only [↓fsPre, fsPost, fsCond, fsGen, fsDefs, cls, eqVal, vbGen, fill_bits, reduceCtorEq, Nat.reduceAdd, Nat.reduceMul, Nat.reduceSub, Nat.reduceLT, Nat.reduceLeDiff, Nat.reduceEqDiff, Nat.reduceBEq, Nat.reduceBNe, Int.reduceLT, Int.reduceLE, Int.reduceEq, Int.reduceNe, Int.reduceAdd, Int.reduceSub, Int.reduceNeg, Int.reduceToNat, Int.reduceMul, ↓reduceIte, Int.reduceGT, Int.reduceGE, f0, f4, f5, f6, e2, Int.add_assoc]
    refine ⟨_, rfl, fun i hi => ?_⟩
    simp only [updB]
    by_cases h1 : i = s + j
    · subst h1; simp
    · rw [if_neg h1, hf i hi, decide_eq_decide]; omega
  · rintro F h ⟨f0, f4, f5, f6, f, rfl, hf⟩
    simp (disch := first | omega | (simp only [fsLen]; omega)) only [↓fsPre, fsPost, fsCond, fsGen, fsDefs, cls, eqVal, vbGen, fill_bits, reduceCtorEq, Nat.reduceAdd, Nat.reduceMul, Nat.reduceSub, Nat.reduceLT, Nat.reduceLeDiff, Nat.reduceEqDiff, Nat.reduceBEq, Nat.reduceBNe, Int.reduceLT, Int.reduceLE, Int.reduceEq, Int.reduceNe, Int.reduceAdd, Int.reduceSub, Int.reduceNeg, Int.reduceToNat, Int.reduceMul, ↓reduceIte, Int.reduceGT, Int.reduceGE, f0, f4, f5, f6]
    refine callT_one (make_ok _ f) rfl ?_
    simp (disch := first | omega | (simp only [fsLen]; omega)) only [↓fsPre, fsPost, fsCond, fsGen, fsDefs, cls, eqVal, vbGen, fill_bits, reduceCtorEq, Nat.reduceAdd, Nat.reduceMul, Nat.reduceSub, Nat.reduceLT, Nat.reduceLeDiff, Nat.reduceEqDiff, Nat.reduceBEq, Nat.reduceBNe, Int.reduceLT, Int.reduceLE, Int.reduceEq, Int.reduceNe, Int.reduceAdd, Int.reduceSub, Int.reduceNeg, Int.reduceToNat, Int.reduceMul, ↓reduceIte, Int.reduceGT, Int.reduceGE, vnv, f4]
    refine ⟨?_, _, rfl⟩
    rw [← hw]
    exact congrArg vnv (ofB_eq fun i hi => by rw [hf i hi, ofB_get, Nat.add_sub_cancel]; simp [hi])



theorem rcmp_ok (H : Heap) (a b : BitVec 128) : NCall Try.prog 48 [vnv a, vnv b] H fun r => r = (.int .i64 (cmpV a b), H) := by
  refine call_pure E0 mixed t48_ok (by kernel_rfl) trivial ?_
  have ha := fun H => read_ok H a
  have hb := fun H => read_ok H b
  simp only [t48, vnv] at ha hb ⊢
  simp (disch := first | omega | (simp only [fsLen]; omega)) only [↓fsPre, fsPost, fsCond, fsGen, fsDefs, cls, eqVal, vbGen, fill_bits, reduceCtorEq, Nat.reduceAdd, Nat.reduceMul, Nat.reduceSub, Nat.reduceLT, Nat.reduceLeDiff, Nat.reduceEqDiff, Nat.reduceBEq, Nat.reduceBNe, Int.reduceLT, Int.reduceLE, Int.reduceEq, Int.reduceNe, Int.reduceAdd, Int.reduceSub, Int.reduceNeg, Int.reduceToNat, Int.reduceMul, ↓reduceIte, Int.reduceGT, Int.reduceGE]
  refine callDT_one (ha _) rfl ?_
  simp (disch := first | omega | (simp only [fsLen]; omega)) only [↓fsPre, fsPost, fsCond, fsGen, fsDefs, cls, eqVal, vbGen, fill_bits, reduceCtorEq, Nat.reduceAdd, Nat.reduceMul, Nat.reduceSub, Nat.reduceLT, Nat.reduceLeDiff, Nat.reduceEqDiff, Nat.reduceBEq, Nat.reduceBNe, Int.reduceLT, Int.reduceLE, Int.reduceEq, Int.reduceNe, Int.reduceAdd, Int.reduceSub, Int.reduceNeg, Int.reduceToNat, Int.reduceMul, ↓reduceIte, Int.reduceGT, Int.reduceGE]
  refine callDT_one (hb _) rfl ?_
  simp (disch := first | omega | (simp only [fsLen]; omega)) only [↓fsPre, fsPost, fsCond, fsGen, fsDefs, cls, eqVal, vbGen, fill_bits, reduceCtorEq, Nat.reduceAdd, Nat.reduceMul, Nat.reduceSub, Nat.reduceLT, Nat.reduceLeDiff, Nat.reduceEqDiff, Nat.reduceBEq, Nat.reduceBNe, Int.reduceLT, Int.reduceLE, Int.reduceEq, Int.reduceNe, Int.reduceAdd, Int.reduceSub, Int.reduceNeg, Int.reduceToNat, Int.reduceMul, ↓reduceIte, Int.reduceGT, Int.reduceGE]
  refine wloop (fun j F h => F 5 = .ptr (some (H.length + 2, 0)) ∧ F 6 = .ptr (some (H.length + 3, 0)) ∧ F 7 = .int .i64 (127 - j) ∧
    h = H ++ [some (.cells [nb (hiOf a), nb (loOf a)] false), some (.cells [nb (hiOf b), nb (loOf b)] false), some (.cells (bitsC a.getLsbD) false), some (.cells (bitsC b.getLsbD) false)] ∧ ∀ i, 128 ≤ i + j → i < 128 → a.getLsbD i = b.getLsbD i) 128 ?_ ?_ ?_
  · simp (disch := first | omega | (simp only [fsLen]; omega)) only [↓fsPre, fsPost, fsCond, fsGen, fsDefs, cls, eqVal, vbGen, fill_bits, reduceCtorEq, Nat.reduceAdd, Nat.reduceMul, Nat.reduceSub, Nat.reduceLT, Nat.reduceLeDiff, Nat.reduceEqDiff, Nat.reduceBEq, Nat.reduceBNe, Int.reduceLT, Int.reduceLE, Int.reduceEq, Int.reduceNe, Int.reduceAdd, Int.reduceSub, Int.reduceNeg, Int.reduceToNat, Int.reduceMul, ↓reduceIte, Int.reduceGT, Int.reduceGE]
    intro i h1 h2; omega
  · rintro j F h hj ⟨f5, f6, f7, rfl, hs⟩
    have e1 : (127 - (j : Int)).toNat = 127 - j := by omega
    have e2 : 127 - (j : Int) - 1 = 127 - (j + 1) := by omega
    simp (disch := first | omega | (simp only [fsLen]; omega)) only [↓fsPre, fsPost, fsCond, fsGen, fsDefs, cls, eqVal, vbGen, fill_bits, reduceCtorEq, Nat.reduceAdd, Nat.reduceMul, Nat.reduceSub, Nat.reduceLT, Nat.reduceLeDiff, Nat.reduceEqDiff, Nat.reduceBEq, Nat.reduceBNe, Int.reduceLT, Int.reduceLE, Int.reduceEq, Int.reduceNe, Int.reduceAdd, Int.reduceSub, Int.reduceNeg, Int.reduceToNat, Int.reduceMul, ↓reduceIte, Int.reduceGT, Int.reduceGE, f5, f6, f7, e1, e2]
    refine condK_bool (fun he => ?_) (fun he => ?_)
    · have hne : a.getLsbD (127 - j) ≠ b.getLsbD (127 - j) := by simpa using he
      have hc := cmp_top (i := 127 - j) (by omega) hne (fun k h1 h2 => hs k (by omega) h2)
      simp (disch := first | omega | (simp only [fsLen]; omega)) only [↓fsPre, fsPost, fsCond, fsGen, fsDefs, cls, eqVal, vbGen, fill_bits, reduceCtorEq, Nat.reduceAdd, Nat.reduceMul, Nat.reduceSub, Nat.reduceLT, Nat.reduceLeDiff, Nat.reduceEqDiff, Nat.reduceBEq, Nat.reduceBNe, Int.reduceLT, Int.reduceLE, Int.reduceEq, Int.reduceNe, Int.reduceAdd, Int.reduceSub, Int.reduceNeg, Int.reduceToNat, Int.reduceMul, ↓reduceIte, Int.reduceGT, Int.reduceGE, f5, f6, f7, e1, e2]
      cases hb : b.getLsbD (127 - j) with
      | true =>
        simp (disch := first | omega | (simp only [fsLen]; omega)) only [↓fsPre, fsPost, fsCond, fsGen, fsDefs, cls, eqVal, vbGen, fill_bits, reduceCtorEq, Nat.reduceAdd, Nat.reduceMul, Nat.reduceSub, Nat.reduceLT, Nat.reduceLeDiff, Nat.reduceEqDiff, Nat.reduceBEq, Nat.reduceBNe, Int.reduceLT, Int.reduceLE, Int.reduceEq, Int.reduceNe, Int.reduceAdd, Int.reduceSub, Int.reduceNeg, Int.reduceToNat, Int.reduceMul, ↓reduceIte, Int.reduceGT, Int.reduceGE]
        exact ⟨by rw [hc, hb]; rfl, _, rfl⟩
      | false =>
        simp (disch := first | omega | (simp only [fsLen]; omega)) only [↓fsPre, fsPost, fsCond, fsGen, fsDefs, cls, eqVal, vbGen, fill_bits, reduceCtorEq, Nat.reduceAdd, Nat.reduceMul, Nat.reduceSub, Nat.reduceLT, Nat.reduceLeDiff, Nat.reduceEqDiff, Nat.reduceBEq, Nat.reduceBNe, Int.reduceLT, Int.reduceLE, Int.reduceEq, Int.reduceNe, Int.reduceAdd, Int.reduceSub, Int.reduceNeg, Int.reduceToNat, Int.reduceMul, ↓reduceIte, Int.reduceGT, Int.reduceGE]
        exact ⟨by rw [hc, hb]; rfl, _, rfl⟩
    · have hne : a.getLsbD (127 - j) = b.getLsbD (127 - j) := by simpa using he
      simp (disch := first | omega | (simp only [fsLen]; omega)) only [↓fsPre, fsPost, fsCond, fsGen, fsDefs, cls, eqVal, vbGen, fill_bits, reduceCtorEq, Nat.reduceAdd, Nat.reduceMul, Nat.reduceSub, Nat.reduceLT, Nat.reduceLeDiff, Nat.reduceEqDiff, Nat.reduceBEq, Nat.reduceBNe, Int.reduceLT, Int.reduceLE, Int.reduceEq, Int.reduceNe, Int.reduceAdd, Int.reduceSub, Int.reduceNeg, Int.reduceToNat, Int.reduceMul, ↓reduceIte, Int.reduceGT, Int.reduceGE, f5, f6, f7, e1, e2]
      intro i h1 h2
      by_cases h3 : i = 127 - j
      · rw [h3, hne]
      · exact hs i (by omega) h2
  · rintro F h ⟨f5, f6, f7, rfl, hs⟩
    simp (disch := first | omega | (simp only [fsLen]; omega)) only [↓fsPre, fsPost, fsCond, fsGen, fsDefs, cls, eqVal, vbGen, fill_bits, reduceCtorEq, Nat.reduceAdd, Nat.reduceMul, Nat.reduceSub, Nat.reduceLT, Nat.reduceLeDiff, Nat.reduceEqDiff, Nat.reduceBEq, Nat.reduceBNe, Int.reduceLT, Int.reduceLE, Int.reduceEq, Int.reduceNe, Int.reduceAdd, Int.reduceSub, Int.reduceNeg, Int.reduceToNat, Int.reduceMul, ↓reduceIte, Int.reduceGT, Int.reduceGE, f5, f6, f7]
    exact ⟨by rw [cmp_same fun i hi => hs i (by omega) hi], _, rfl⟩

theorem idx_tab {s : ByteArray} {k : Nat} (hk : k < 256) (hs : (List.range 256).all (fun i => (s.data.toList[i]?).map (·.toNat) == some (bl i)) = true) : nstrIdx (.str s) (.int .u8 k) = some (.int .u8 (bl k : Nat)) := by
  have := List.all_eq_true.1 hs k (List.mem_range.2 hk)
  simp only [nstrIdx]
  rw [if_pos (by omega), Int.toNat_natCast]
  cases h : s.data.toList[k]? with
  | none => rw [h] at this; simp at this
  | some b =>
    rw [h] at this
    have h2 : b.toNat = bl k := by simpa using this
    rw [Option.map_some, h2]

theorem len64_ok (H : Heap) (x : BitVec 64) : NCall Try.prog 56 [nb x] H fun r => r = (.int .i64 (bl x.toNat : Nat), H) := by
  refine call_of E0 mixed t56_ok (by kernel_rfl) (by rintro q rfl; simp) ?_
  have hx := x.isLt
  simp only [t56]
  simp (disch := first | omega | (simp only [fsLen]; omega)) only [↓fsPre, fsPost, fsCond, fsGen, fsDefs, cls, eqVal, vbGen, fill_bits, reduceCtorEq, Nat.reduceAdd, Nat.reduceMul, Nat.reduceSub, Nat.reduceLT, Nat.reduceLeDiff, Nat.reduceEqDiff, Nat.reduceBEq, Nat.reduceBNe, Int.reduceLT, Int.reduceLE, Int.reduceEq, Int.reduceNe, Int.reduceAdd, Int.reduceSub, Int.reduceNeg, Int.reduceToNat, Int.reduceMul, ↓reduceIte, Int.reduceGT, Int.reduceGE]
  refine condK_join (fun F h => h = H ∧ ∃ y n, F 0 = nb y ∧ F 2 = .int .i64 (n : Nat) ∧ n + bl y.toNat = bl x.toNat ∧ y.toNat < 4294967296 ∧ n ≤ 32) (fun e => ?_) (fun e => ?_) ?_
  · simp (disch := first | omega | (simp only [fsLen]; omega)) only [↓fsPre, fsPost, fsCond, fsGen, fsDefs, cls, eqVal, vbGen, fill_bits, reduceCtorEq, Nat.reduceAdd, Nat.reduceMul, Nat.reduceSub, Nat.reduceLT, Nat.reduceLeDiff, Nat.reduceEqDiff, Nat.reduceBEq, Nat.reduceBNe, Int.reduceLT, Int.reduceLE, Int.reduceEq, Int.reduceNe, Int.reduceAdd, Int.reduceSub, Int.reduceNeg, Int.reduceToNat, Int.reduceMul, ↓reduceIte, Int.reduceGT, Int.reduceGE]
    have e1 : 4294967296 ≤ x.toNat := by have := of_decide_eq_true e; omega
    have e2 : (x >>> 32).toNat = x.toNat / 2 ^ 32 := by rw [BitVec.toNat_ushiftRight, Nat.shiftRight_eq_div_pow]
    refine ⟨_, 32, rfl, rfl, ?_, ?_, by omega⟩
    · rw [e2]; exact (bl_shift (k := 32) (by omega)).symm
    · rw [e2]; omega
  · simp (disch := first | omega | (simp only [fsLen]; omega)) only [↓fsPre, fsPost, fsCond, fsGen, fsDefs, cls, eqVal, vbGen, fill_bits, reduceCtorEq, Nat.reduceAdd, Nat.reduceMul, Nat.reduceSub, Nat.reduceLT, Nat.reduceLeDiff, Nat.reduceEqDiff, Nat.reduceBEq, Nat.reduceBNe, Int.reduceLT, Int.reduceLE, Int.reduceEq, Int.reduceNe, Int.reduceAdd, Int.reduceSub, Int.reduceNeg, Int.reduceToNat, Int.reduceMul, ↓reduceIte, Int.reduceGT, Int.reduceGE]
    have e1 : x.toNat < 4294967296 := by have := of_decide_eq_false e; omega
    exact ⟨_, 0, rfl, rfl, by omega, e1, by omega⟩
  rintro F h ⟨rfl, y, n, f0, f2, hn, hy, hn2⟩
  simp (disch := first | omega | (simp only [fsLen]; omega)) only [↓fsPre, fsPost, fsCond, fsGen, fsDefs, cls, eqVal, vbGen, fill_bits, reduceCtorEq, Nat.reduceAdd, Nat.reduceMul, Nat.reduceSub, Nat.reduceLT, Nat.reduceLeDiff, Nat.reduceEqDiff, Nat.reduceBEq, Nat.reduceBNe, Int.reduceLT, Int.reduceLE, Int.reduceEq, Int.reduceNe, Int.reduceAdd, Int.reduceSub, Int.reduceNeg, Int.reduceToNat, Int.reduceMul, ↓reduceIte, Int.reduceGT, Int.reduceGE, f0, f2]
  refine condK_join (fun F h' => h' = h ∧ ∃ y n, F 0 = nb y ∧ F 2 = .int .i64 (n : Nat) ∧ n + bl y.toNat = bl x.toNat ∧ y.toNat < 65536 ∧ n ≤ 48) (fun e => ?_) (fun e => ?_) ?_
  · simp (disch := first | omega | (simp only [fsLen]; omega)) only [↓fsPre, fsPost, fsCond, fsGen, fsDefs, cls, eqVal, vbGen, fill_bits, reduceCtorEq, Nat.reduceAdd, Nat.reduceMul, Nat.reduceSub, Nat.reduceLT, Nat.reduceLeDiff, Nat.reduceEqDiff, Nat.reduceBEq, Nat.reduceBNe, Int.reduceLT, Int.reduceLE, Int.reduceEq, Int.reduceNe, Int.reduceAdd, Int.reduceSub, Int.reduceNeg, Int.reduceToNat, Int.reduceMul, ↓reduceIte, Int.reduceGT, Int.reduceGE, f0, f2]
    have e1 : 65536 ≤ y.toNat := by have := of_decide_eq_true e; omega
    have e2 : (y >>> 16).toNat = y.toNat / 2 ^ 16 := by rw [BitVec.toNat_ushiftRight, Nat.shiftRight_eq_div_pow]
    refine ⟨_, n + 16, rfl, by simp, ?_, ?_, by omega⟩
    · rw [e2, ← hn, bl_shift (n := y.toNat) (k := 16) (by omega)]; omega
    · rw [e2]; omega
  · simp (disch := first | omega | (simp only [fsLen]; omega)) only [↓fsPre, fsPost, fsCond, fsGen, fsDefs, cls, eqVal, vbGen, fill_bits, reduceCtorEq, Nat.reduceAdd, Nat.reduceMul, Nat.reduceSub, Nat.reduceLT, Nat.reduceLeDiff, Nat.reduceEqDiff, Nat.reduceBEq, Nat.reduceBNe, Int.reduceLT, Int.reduceLE, Int.reduceEq, Int.reduceNe, Int.reduceAdd, Int.reduceSub, Int.reduceNeg, Int.reduceToNat, Int.reduceMul, ↓reduceIte, Int.reduceGT, Int.reduceGE, f0, f2]
    have e1 : y.toNat < 65536 := by have := of_decide_eq_false e; omega
    exact ⟨_, n, rfl, rfl, hn, e1, by omega⟩
  clear f0 f2 hn hy hn2 F y n
  rintro F h' ⟨rfl, y, n, f0, f2, hn, hy, hn2⟩
  simp (disch := first | omega | (simp only [fsLen]; omega)) only [↓fsPre, fsPost, fsCond, fsGen, fsDefs, cls, eqVal, vbGen, fill_bits, reduceCtorEq, Nat.reduceAdd, Nat.reduceMul, Nat.reduceSub, Nat.reduceLT, Nat.reduceLeDiff, Nat.reduceEqDiff, Nat.reduceBEq, Nat.reduceBNe, Int.reduceLT, Int.reduceLE, Int.reduceEq, Int.reduceNe, Int.reduceAdd, Int.reduceSub, Int.reduceNeg, Int.reduceToNat, Int.reduceMul, ↓reduceIte, Int.reduceGT, Int.reduceGE, f0, f2]
  refine condK_join (fun F h => h = h' ∧ ∃ y n, F 0 = nb y ∧ F 2 = .int .i64 (n : Nat) ∧ n + bl y.toNat = bl x.toNat ∧ y.toNat < 256 ∧ n ≤ 56) (fun e => ?_) (fun e => ?_) ?_
  · simp (disch := first | omega | (simp only [fsLen]; omega)) only [↓fsPre, fsPost, fsCond, fsGen, fsDefs, cls, eqVal, vbGen, fill_bits, reduceCtorEq, Nat.reduceAdd, Nat.reduceMul, Nat.reduceSub, Nat.reduceLT, Nat.reduceLeDiff, Nat.reduceEqDiff, Nat.reduceBEq, Nat.reduceBNe, Int.reduceLT, Int.reduceLE, Int.reduceEq, Int.reduceNe, Int.reduceAdd, Int.reduceSub, Int.reduceNeg, Int.reduceToNat, Int.reduceMul, ↓reduceIte, Int.reduceGT, Int.reduceGE, f0, f2]
    have e1 : 256 ≤ y.toNat := by have := of_decide_eq_true e; omega
    have e2 : (y >>> 8).toNat = y.toNat / 2 ^ 8 := by rw [BitVec.toNat_ushiftRight, Nat.shiftRight_eq_div_pow]
    refine ⟨_, n + 8, rfl, by simp, ?_, ?_, by omega⟩
    · rw [e2, ← hn, bl_shift (n := y.toNat) (k := 8) (by omega)]; omega
    · rw [e2]; omega
  · simp (disch := first | omega | (simp only [fsLen]; omega)) only [↓fsPre, fsPost, fsCond, fsGen, fsDefs, cls, eqVal, vbGen, fill_bits, reduceCtorEq, Nat.reduceAdd, Nat.reduceMul, Nat.reduceSub, Nat.reduceLT, Nat.reduceLeDiff, Nat.reduceEqDiff, Nat.reduceBEq, Nat.reduceBNe, Int.reduceLT, Int.reduceLE, Int.reduceEq, Int.reduceNe, Int.reduceAdd, Int.reduceSub, Int.reduceNeg, Int.reduceToNat, Int.reduceMul, ↓reduceIte, Int.reduceGT, Int.reduceGE, f0, f2]
    have e1 : y.toNat < 256 := by have := of_decide_eq_false e; omega
    exact ⟨_, n, rfl, rfl, hn, e1, by omega⟩
  clear f0 f2 hn hy hn2 F y n
  rintro F h ⟨rfl, y, n, f0, f2, hn, hy, hn2⟩
  have hw : (y.setWidth 8).toNat = y.toNat := by rw [BitVec.toNat_setWidth]; omega
  have hb : bl y.toNat ≤ 8 := by rw [bl_le]; omega
  simp (disch := first | omega | (simp only [fsLen]; omega)) only [↓fsPre, fsPost, fsCond, fsGen, fsDefs, cls, eqVal, vbGen, fill_bits, reduceCtorEq, Nat.reduceAdd, Nat.reduceMul, Nat.reduceSub, Nat.reduceLT, Nat.reduceLeDiff, Nat.reduceEqDiff, Nat.reduceBEq, Nat.reduceBNe, Int.reduceLT, Int.reduceLE, Int.reduceEq, Int.reduceNe, Int.reduceAdd, Int.reduceSub, Int.reduceNeg, Int.reduceToNat, Int.reduceMul, ↓reduceIte, Int.reduceGT, Int.reduceGE, f0, f2, hw]
  refine ⟨_, idx_tab hy (by decide +kernel), ?_⟩
  simp (disch := first | omega | (simp only [fsLen]; omega)) only [↓fsPre, fsPost, fsCond, fsGen, fsDefs, cls, eqVal, vbGen, fill_bits, reduceCtorEq, Nat.reduceAdd, Nat.reduceMul, Nat.reduceSub, Nat.reduceLT, Nat.reduceLeDiff, Nat.reduceEqDiff, Nat.reduceBEq, Nat.reduceBNe, Int.reduceLT, Int.reduceLE, Int.reduceEq, Int.reduceNe, Int.reduceAdd, Int.reduceSub, Int.reduceNeg, Int.reduceToNat, Int.reduceMul, ↓reduceIte, Int.reduceGT, Int.reduceGE]
  rw [← hn]; simp

theorem len_ok (H : Heap) (v : BitVec 128) : NCall Try.prog 49 [vnv v] H fun r => r = (.int .i64 (bl v.toNat : Nat), H) := by
  refine call_pure E0 mixed t49_ok (by kernel_rfl) trivial ?_
  have h1 := fun H => len64_ok H (hiOf v)
  have h2 := fun H => len64_ok H (loOf v)
  have hb := bl_128 v
  rw [bl_words] at hb ⊢
  simp only [t49, vnv]
  simp (disch := first | omega | (simp only [fsLen]; omega)) only [↓fsPre, fsPost, fsCond, fsGen, fsDefs, cls, eqVal, vbGen, fill_bits, reduceCtorEq, Nat.reduceAdd, Nat.reduceMul, Nat.reduceSub, Nat.reduceLT, Nat.reduceLeDiff, Nat.reduceEqDiff, Nat.reduceBEq, Nat.reduceBNe, Int.reduceLT, Int.reduceLE, Int.reduceEq, Int.reduceNe, Int.reduceAdd, Int.reduceSub, Int.reduceNeg, Int.reduceToNat, Int.reduceMul, ↓reduceIte, Int.reduceGT, Int.reduceGE]
  refine condK_bool (fun e => ?_) (fun e => ?_)
  · have e1 : hiOf v ≠ 0#64 := by simpa using e
    rw [if_neg e1] at hb ⊢
    simp (disch := first | omega | (simp only [fsLen]; omega)) only [↓fsPre, fsPost, fsCond, fsGen, fsDefs, cls, eqVal, vbGen, fill_bits, reduceCtorEq, Nat.reduceAdd, Nat.reduceMul, Nat.reduceSub, Nat.reduceLT, Nat.reduceLeDiff, Nat.reduceEqDiff, Nat.reduceBEq, Nat.reduceBNe, Int.reduceLT, Int.reduceLE, Int.reduceEq, Int.reduceNe, Int.reduceAdd, Int.reduceSub, Int.reduceNeg, Int.reduceToNat, Int.reduceMul, ↓reduceIte, Int.reduceGT, Int.reduceGE]
    refine callT_one (h1 _) rfl ?_
    simp (disch := first | omega | (simp only [fsLen]; omega)) only [↓fsPre, fsPost, fsCond, fsGen, fsDefs, cls, eqVal, vbGen, fill_bits, reduceCtorEq, Nat.reduceAdd, Nat.reduceMul, Nat.reduceSub, Nat.reduceLT, Nat.reduceLeDiff, Nat.reduceEqDiff, Nat.reduceBEq, Nat.reduceBNe, Int.reduceLT, Int.reduceLE, Int.reduceEq, Int.reduceNe, Int.reduceAdd, Int.reduceSub, Int.reduceNeg, Int.reduceToNat, Int.reduceMul, ↓reduceIte, Int.reduceGT, Int.reduceGE]
    simp
  · have e1 : hiOf v = 0#64 := by simpa using e
    rw [if_pos e1] at hb ⊢
    simp (disch := first | omega | (simp only [fsLen]; omega)) only [↓fsPre, fsPost, fsCond, fsGen, fsDefs, cls, eqVal, vbGen, fill_bits, reduceCtorEq, Nat.reduceAdd, Nat.reduceMul, Nat.reduceSub, Nat.reduceLT, Nat.reduceLeDiff, Nat.reduceEqDiff, Nat.reduceBEq, Nat.reduceBNe, Int.reduceLT, Int.reduceLE, Int.reduceEq, Int.reduceNe, Int.reduceAdd, Int.reduceSub, Int.reduceNeg, Int.reduceToNat, Int.reduceMul, ↓reduceIte, Int.reduceGT, Int.reduceGE]
    refine callT_one (h2 _) rfl ?_
    simp (disch := first | omega | (simp only [fsLen]; omega)) only [↓fsPre, fsPost, fsCond, fsGen, fsDefs, cls, eqVal, vbGen, fill_bits, reduceCtorEq, Nat.reduceAdd, Nat.reduceMul, Nat.reduceSub, Nat.reduceLT, Nat.reduceLeDiff, Nat.reduceEqDiff, Nat.reduceBEq, Nat.reduceBNe, Int.reduceLT, Int.reduceLE, Int.reduceEq, Int.reduceNe, Int.reduceAdd, Int.reduceSub, Int.reduceNeg, Int.reduceToNat, Int.reduceMul, ↓reduceIte, Int.reduceGT, Int.reduceGE]
    exact ⟨_, rfl⟩

theorem fits_ok (H : Heap) (v : BitVec 128) (n : Int) : NCall Try.prog 36 [vnv v, .int .i64 n] H fun r => r = (.bool (decide ((bl v.toNat : Int) ≤ n)), H) := by
  refine call_pure E0 mixed t36_ok (by kernel_rfl) trivial ?_
  have hr := fun H => len_ok H v
  simp only [t36, vnv] at hr ⊢
  simp (disch := first | omega | (simp only [fsLen]; omega)) only [↓fsPre, fsPost, fsCond, fsGen, fsDefs, cls, eqVal, vbGen, fill_bits, reduceCtorEq, Nat.reduceAdd, Nat.reduceMul, Nat.reduceSub, Nat.reduceLT, Nat.reduceLeDiff, Nat.reduceEqDiff, Nat.reduceBEq, Nat.reduceBNe, Int.reduceLT, Int.reduceLE, Int.reduceEq, Int.reduceNe, Int.reduceAdd, Int.reduceSub, Int.reduceNeg, Int.reduceToNat, Int.reduceMul, ↓reduceIte, Int.reduceGT, Int.reduceGE]
  refine callT_one (hr _) rfl ?_
  simp (disch := first | omega | (simp only [fsLen]; omega)) only [↓fsPre, fsPost, fsCond, fsGen, fsDefs, cls, eqVal, vbGen, fill_bits, reduceCtorEq, Nat.reduceAdd, Nat.reduceMul, Nat.reduceSub, Nat.reduceLT, Nat.reduceLeDiff, Nat.reduceEqDiff, Nat.reduceBEq, Nat.reduceBNe, Int.reduceLT, Int.reduceLE, Int.reduceEq, Int.reduceNe, Int.reduceAdd, Int.reduceSub, Int.reduceNeg, Int.reduceToNat, Int.reduceMul, ↓reduceIte, Int.reduceGT, Int.reduceGE]
  exact ⟨_, rfl⟩
def bitV (v : BitVec 128) (i : Int) : Bool := decide (0 ≤ i) && v.getLsbD i.toNat
theorem bit_ok (H : Heap) (v : BitVec 128) (i : Int) (hi : -9223372036854775808 ≤ i ∧ i ≤ 9223372036854775807) : NCall Try.prog 47 [vnv v, .int .i64 i] H fun r => r = (.bool (bitV v i), H) := by
  refine call_pure E0 mixed t47_ok (by kernel_rfl) trivial ?_
  have hr := fun H => right_ok H v i hi
  simp only [t47, vnv] at hr ⊢
  by_cases h0 : 0 ≤ i
  · by_cases h1 : i < 128
    · simp (disch := first | omega | (simp only [fsLen]; omega)) only [↓fsPre, fsPost, fsCond, fsGen, fsDefs, cls, eqVal, vbGen, fill_bits, reduceCtorEq, Nat.reduceAdd, Nat.reduceMul, Nat.reduceSub, Nat.reduceLT, Nat.reduceLeDiff, Nat.reduceEqDiff, Nat.reduceBEq, Nat.reduceBNe, Int.reduceLT, Int.reduceLE, Int.reduceEq, Int.reduceNe, Int.reduceAdd, Int.reduceSub, Int.reduceNeg, Int.reduceToNat, Int.reduceMul, ↓reduceIte, Int.reduceGT, Int.reduceGE, decide_eq_true h0, decide_eq_true h1]
      refine callT_one (hr _) rfl ?_
      have hb : (loOf (v >>> i.toNat) &&& BitVec.ofInt 64 1 == BitVec.ofInt 64 1) = bitV v i := by
        have : (loOf (v >>> i.toNat) &&& BitVec.ofInt 64 1 == BitVec.ofInt 64 1) = (loOf (v >>> i.toNat)).getLsbD 0 := bit_and
        rw [this, loOf_get, BitVec.getLsbD_ushiftRight]
        simp [bitV, h0]
      simp (disch := first | omega | (simp only [fsLen]; omega)) only [↓fsPre, fsPost, fsCond, fsGen, fsDefs, cls, eqVal, vbGen, fill_bits, reduceCtorEq, Nat.reduceAdd, Nat.reduceMul, Nat.reduceSub, Nat.reduceLT, Nat.reduceLeDiff, Nat.reduceEqDiff, Nat.reduceBEq, Nat.reduceBNe, Int.reduceLT, Int.reduceLE, Int.reduceEq, Int.reduceNe, Int.reduceAdd, Int.reduceSub, Int.reduceNeg, Int.reduceToNat, Int.reduceMul, ↓reduceIte, Int.reduceGT, Int.reduceGE, decide_eq_true h0, decide_eq_true h1, hb]
      exact ⟨_, rfl⟩
    · simp (disch := first | omega | (simp only [fsLen]; omega)) only [↓fsPre, fsPost, fsCond, fsGen, fsDefs, cls, eqVal, vbGen, fill_bits, reduceCtorEq, Nat.reduceAdd, Nat.reduceMul, Nat.reduceSub, Nat.reduceLT, Nat.reduceLeDiff, Nat.reduceEqDiff, Nat.reduceBEq, Nat.reduceBNe, Int.reduceLT, Int.reduceLE, Int.reduceEq, Int.reduceNe, Int.reduceAdd, Int.reduceSub, Int.reduceNeg, Int.reduceToNat, Int.reduceMul, ↓reduceIte, Int.reduceGT, Int.reduceGE, decide_eq_true h0, decide_eq_false h1]
      refine ⟨?_, _, rfl⟩
      unfold bitV
      rw [BitVec.getLsbD_of_ge v i.toNat (by omega)]; simp
  · simp (disch := first | omega | (simp only [fsLen]; omega)) only [↓fsPre, fsPost, fsCond, fsGen, fsDefs, cls, eqVal, vbGen, fill_bits, reduceCtorEq, Nat.reduceAdd, Nat.reduceMul, Nat.reduceSub, Nat.reduceLT, Nat.reduceLeDiff, Nat.reduceEqDiff, Nat.reduceBEq, Nat.reduceBNe, Int.reduceLT, Int.reduceLE, Int.reduceEq, Int.reduceNe, Int.reduceAdd, Int.reduceSub, Int.reduceNeg, Int.reduceToNat, Int.reduceMul, ↓reduceIte, Int.reduceGT, Int.reduceGE, decide_eq_false h0]
    refine ⟨?_, _, rfl⟩
    unfold bitV
    rw [decide_eq_false h0]; rfl

/-- A number as a value. -/
def ofV (k : Int) : BitVec 128 := BitVec.ofNat 128 k.toNat
theorem ofV_nv {k : Int} (h : 0 ≤ k ∧ k < 18446744073709551616) : NV.agg [nb 0#64, nb (BitVec.ofInt 64 k)] = vnv (ofV k) := by
  have h1 : (ofV k).toNat = k.toNat := by unfold ofV; rw [BitVec.toNat_ofNat, Nat.mod_eq_of_lt (by omega)]
  apply vnv_nat
  · rw [h1]; simp; omega
  · rw [h1, BitVec.toNat_ofInt]; omega
theorem of_ok (H : Heap) (k : Int) (h : 0 ≤ k ∧ k < 18446744073709551616) : NCall Try.prog 59 [.int .u64 k] H fun r => r = (vnv (ofV k), H) := by
  refine call_pure E0 mixed t59_ok (by kernel_rfl) vnv_lo ?_
  rw [nb_of k h]
  generalize hw : vnv (ofV k) = w
  simp only [t59]
  simp (disch := first | omega | (simp only [fsLen]; omega)) only [↓fsPre, fsPost, fsCond, fsGen, fsDefs, cls, eqVal, vbGen, fill_bits, reduceCtorEq, Nat.reduceAdd, Nat.reduceMul, Nat.reduceSub, Nat.reduceLT, Nat.reduceLeDiff, Nat.reduceEqDiff, Nat.reduceBEq, Nat.reduceBNe, Int.reduceLT, Int.reduceLE, Int.reduceEq, Int.reduceNe, Int.reduceAdd, Int.reduceSub, Int.reduceNeg, Int.reduceToNat, Int.reduceMul, ↓reduceIte, Int.reduceGT, Int.reduceGE]
  exact ⟨by rw [← hw]; exact ofV_nv h, _, rfl⟩

end Go.Proofs
