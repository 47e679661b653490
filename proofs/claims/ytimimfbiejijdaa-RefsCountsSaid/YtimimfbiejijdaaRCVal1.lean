/- Values: Read, Make, clamp, within, Left, Right. -/
import Derived.Test.YtimimfbiejijdaaRCBC
import Derived.Test.YtimimfbiejijdaaVbB
set_option linter.unusedSimpArgs false
set_option linter.unusedVariables false
set_option maxRecDepth 10000
namespace Go.Proofs
open Go.Ns

theorem fill_bits : fill 128 (.bool false) = bitsC fun _ => false := bitsC_zero

theorem read_ok (H : Heap) (v : BitVec 128) : NCall Try.prog 71 [vnv v] H fun r => r = (.agg (bitsC v.getLsbD), H) := by
  refine call_pure E0 mixed t71_ok (by kernel_rfl) bitsC_lo ?_
  simp only [t71, fill_bits, vnv]
  simp (disch := first | omega | (simp only [fsLen]; omega)) only [↓fsPre, fsPost, fsGen, nb_one, fill_bits, Nat.reduceAdd]
  refine wloop (fun j F h => F 1 = .ptr (some (H.length, 0)) ∧ F 2 = .ptr (some (H.length + 1, 0)) ∧ F 3 = .ptr (some (H.length + 2, 0)) ∧ F 4 = .int .i64 j ∧
    ∃ f, h = H ++ [some (.cells [nb (hiOf v), nb (loOf v)] false), some (.cells (bitsC fun _ => false) false), some (.cells (bitsC f) false)] ∧ ∀ i, i < 128 → f i = (decide (i < j ∨ 64 ≤ i ∧ i < 64 + j) && v.getLsbD i)) 64 ?_ ?_ ?_
  · simp (disch := first | omega | (simp only [fsLen]; omega)) only [↓fsPre, fsGen, Nat.reduceEqDiff, ↓reduceIte]
    exact ⟨_, rfl, fun i hi => by rw [decide_eq_false (by omega)]; rfl⟩
  · rintro j F h hj ⟨f1, f2, f3, f4, f, rfl, hf⟩
    simp (disch := first | omega | (simp only [fsLen]; omega)) only [↓fsPre, fsPost, fsCond, fsGen, noff, nidxArr, cls, nb_and_c, nb_shr, nb_eql_c, bitsC_length, bitsC_splice, bit_ofInt, toNat_add_c, v_i64_add, v_i64_lss, v_conv_u64_i64, Nat.reduceAdd, Nat.reduceLeDiff, Nat.reduceEqDiff, Nat.reduceBEq, Int.reduceToNat, ↓reduceIte, f1, f2, f3, f4, loOf_get, hiOf_get]
    refine ⟨_, rfl, fun i hi => ?_⟩
    simp only [updB]
    by_cases h1 : i = j + 64
    · subst h1
      simp [hj, Nat.add_comm]
    · rw [if_neg h1]
      by_cases h2 : i = j
      · subst h2
        simp [hj]
      · rw [if_neg h2, hf i hi]
        congr 1
        simp only [decide_eq_decide]
        omega
  · rintro F h ⟨f1, f2, f3, f4, f, rfl, hf⟩
    simp (disch := first | omega | (simp only [fsLen]; omega)) only [↓fsPre, fsPost, fsCond, fsGen, fresults, fresl, fres1, bitsC_length, bitsC_cut, bitsC_one, bitsC_splice_all, v_i64_lss, Nat.reduceEqDiff, ↓reduceIte, f2, f3, f4]
    refine ⟨congrArg _ (bitsC_congr fun i hi => ?_), _, rfl⟩
    rw [hf i hi]
    simp; omega

end Go.Proofs
