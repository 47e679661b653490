/- Values: Compare. -/
import Derived.Test.YtimimfbiejijdaaRCVal1
set_option linter.unusedSimpArgs false
set_option linter.unusedVariables false
set_option maxRecDepth 10000
namespace Go.Proofs
open Go.Ns

theorem cmp_ok (H : Heap) (a b : BitVec 128) : NCall Try.prog 40 [vnv a, vnv b] H fun r => r = (.int .i64 (cmpV a b), H) := by
  refine call_pure E0 mixed t40_ok (by kernel_rfl) trivial ?_
  have hl := lt_words a b
  simp only [t40, vnv]
  simp (disch := first | omega | (simp only [fsLen]; omega)) only [↓fsPre, fsPost, fsCond, fsGen, eqVal, eqCells, nb_one, eqCell_nb, Nat.reduceAdd, Nat.reduceEqDiff, Int.reduceNeg, ↓reduceIte, words_eq]
  refine condK_bool (fun he => ?_) (fun he => ?_)
  · simp (disch := first | omega | (simp only [fsLen]; omega)) only [↓fsPre, fsPost, fsGen, fresults, fresl, fres1, ↓reduceIte]
    have : a = b := by simpa using he
    refine ⟨?_, _, rfl⟩
    rw [this, cmp_self]
  · have hne : a ≠ b := by simpa using he
    have hv : ∀ p : Prop, [Decidable p] → (a.toNat < b.toNat ↔ p) → cmpV a b = if p then -1 else 1 := by
      intro p _ hp
      unfold cmpV
      rw [if_neg hne]
      by_cases h : p
      · rw [if_pos h, if_pos (hp.2 h)]
      · rw [if_neg h, if_neg (fun e => h (hp.1 e))]
    by_cases h1 : (hiOf a).toNat < (hiOf b).toNat
    · simp (disch := first | omega | (simp only [fsLen]; omega)) only [↓fsPre, fsPost, fsCond, fsGen, npick, noff, fresults, fresl, fres1, nb_lss, nbool_undef, guardK_none, Nat.reduceEqDiff, Int.reduceNeg, ↓reduceIte, decide_eq_true h1]
      refine ⟨?_, _, rfl⟩
      rw [hv _ hl, if_pos (.inl h1)]
    · by_cases h2 : hiOf a = hiOf b
      · have e2 : (hiOf b == hiOf b) = true := by simp
        rw [h2] at h1 hl ⊢
        by_cases h3 : (loOf a).toNat < (loOf b).toNat
        · simp (disch := first | omega | (simp only [fsLen]; omega)) only [↓fsPre, fsPost, fsCond, fsGen, npick, noff, fresults, fresl, fres1, nb_eql, nb_lss, Nat.reduceEqDiff, Int.reduceNeg, ↓reduceIte, decide_eq_false h1, decide_eq_true h3]
          refine ⟨?_, _, rfl⟩
          rw [hv _ hl, if_pos (.inr ⟨rfl, h3⟩)]
        · simp (disch := first | omega | (simp only [fsLen]; omega)) only [↓fsPre, fsPost, fsCond, fsGen, npick, noff, fresults, fresl, fres1, nb_eql, nb_lss, Nat.reduceEqDiff, Int.reduceNeg, ↓reduceIte, decide_eq_false h1, decide_eq_false h3]
          refine ⟨?_, _, rfl⟩
          rw [hv _ hl, if_neg (by rintro (g | g); exact h1 g; exact h3 g.2)]
      · have e2 : (hiOf a == hiOf b) = false := by simpa using h2
        simp (disch := first | omega | (simp only [fsLen]; omega)) only [↓fsPre, fsPost, fsCond, fsGen, npick, noff, fresults, fresl, fres1, nb_eql, nb_lss, Nat.reduceEqDiff, Int.reduceNeg, ↓reduceIte, decide_eq_false h1, e2]
        refine ⟨?_, _, rfl⟩
        rw [hv _ hl, if_neg (by rintro (g | g); exact h1 g; exact h2 g.1)]

theorem rcmp_ok (H : Heap) (a b : BitVec 128) : NCall Try.prog 65 [vnv a, vnv b] H fun r => r = (.int .i64 (cmpV a b), H) := by
  refine call_pure E0 mixed t65_ok (by kernel_rfl) trivial ?_
  have ha := fun H => read_ok H a
  have hb := fun H => read_ok H b
  simp only [t65, vnv] at ha hb ⊢
  simp (disch := first | omega | (simp only [fsLen]; omega)) only [↓fsPre, fsPost, fsCond, fsGen, cls, nb_one, Nat.reduceAdd, Nat.reduceEqDiff, Int.reduceNeg, ↓reduceIte]
  refine callDT_one (ha _) rfl ?_
  simp (disch := first | omega | (simp only [fsLen]; omega)) only [↓fsPre, fsPost, fsCond, fsGen, cls, Nat.reduceAdd, Nat.reduceEqDiff, Nat.reduceBEq, Int.reduceNeg, ↓reduceIte]
  refine callDT_one (hb _) rfl ?_
  simp (disch := first | omega | (simp only [fsLen]; omega)) only [↓fsPre, fsPost, fsCond, fsGen, cls, bitsC_length, bitsC_one, bitsC_splice_all, fill_bits, reduceCtorEq, Nat.reduceAdd, Nat.reduceEqDiff, Nat.reduceBEq, Int.reduceNeg, ↓reduceIte]
  refine wloop (fun j F h => F 5 = .ptr (some (H.length + 2, 0)) ∧ F 6 = .ptr (some (H.length + 3, 0)) ∧ F 7 = .int .i64 (127 - j) ∧
    h = H ++ [some (.cells [nb (hiOf a), nb (loOf a)] false), some (.cells [nb (hiOf b), nb (loOf b)] false), some (.cells (bitsC a.getLsbD) false), some (.cells (bitsC b.getLsbD) false)] ∧ ∀ i, 128 ≤ i + j → i < 128 → a.getLsbD i = b.getLsbD i) 128 ?_ ?_ ?_
  · simp (disch := first | omega | (simp only [fsLen]; omega)) only [↓fsPre, fsGen, Nat.reduceEqDiff, ↓reduceIte]
    intro i h1 h2; omega
  · rintro j F h hj ⟨f5, f6, f7, rfl, hs⟩
    have e1 : (127 - (j : Int)).toNat = 127 - j := by omega
    have e2 : 127 - (j : Int) - 1 = 127 - (j + 1) := by omega
    simp (disch := first | omega | (simp only [fsLen]; omega)) only [↓fsPre, fsPost, fsCond, fsGen, nidxArr, eqVal, cls, ge_iff_le, bitsC_get, v_i64_geq, v_eqc_bool, Nat.reduceAdd, Nat.reduceEqDiff, Int.reduceNeg, ↓reduceIte, f5, f6, f7, e1]
    refine condK_bool (fun he => ?_) (fun he => ?_)
    · have hne : a.getLsbD (127 - j) ≠ b.getLsbD (127 - j) := by simpa using he
      have hc := cmp_top (i := 127 - j) (by omega) hne (fun k h1 h2 => hs k (by omega) h2)
      simp (disch := first | omega | (simp only [fsLen]; omega)) only [↓fsPre, fsPost, fsCond, fsGen, nidxArr, bitsC_get, Nat.reduceEqDiff, Int.reduceNeg, ↓reduceIte, f6, f7, e1]
      cases hb : b.getLsbD (127 - j) with
      | true =>
        simp (disch := first | omega | (simp only [fsLen]; omega)) only [↓fsPre, fsPost, fsGen, fresults, fresl, fres1, Int.reduceNeg, ↓reduceIte]
        exact ⟨by rw [hc, hb]; rfl, _, rfl⟩
      | false =>
        simp (disch := first | omega | (simp only [fsLen]; omega)) only [↓fsPre, fsPost, fsGen, fresults, fresl, fres1, Int.reduceNeg, ↓reduceIte]
        exact ⟨by rw [hc, hb]; rfl, _, rfl⟩
    · have hne : a.getLsbD (127 - j) = b.getLsbD (127 - j) := by simpa using he
      simp (disch := first | omega | (simp only [fsLen]; omega)) only [↓fsPre, fsPost, fsCond, fsGen, v_i64_sub, Nat.reduceEqDiff, ↓reduceIte, f5, f6, f7, e2]
      intro i h1 h2
      by_cases h3 : i = 127 - j
      · rw [h3, hne]
      · exact hs i (by omega) h2
  · rintro F h ⟨f5, f6, f7, rfl, hs⟩
    simp (disch := first | omega | (simp only [fsLen]; omega)) only [↓fsPre, fsPost, fsGen, fresults, fresl, fres1, ge_iff_le, v_i64_geq, Int.reduceLE, Int.reduceSub, Int.reduceNeg, ↓reduceIte, f7]
    exact ⟨by rw [cmp_same fun i hi => hs i (by omega) hi], _, rfl⟩
end Go.Proofs
