/- Trie: TrieCalls, an operation. -/
import Derived.Test.YtiiopgancdgioaaVbE
import Derived.Test.YtiiopgancdgioaaTCTt
set_option linter.unusedSimpArgs false
set_option linter.unusedVariables false
set_option maxRecDepth 100000
namespace Go.Proofs
open Go.Ns

theorem swI_of {N qx qy bits : Nat} {tx : TT} {sl : NV} {o : OpD} {v : BitVec 128} {n : Int} {g G : Heap} {F F' : FF} (I : SwI N qx qy bits tx sl o v n g G F) (h7 : F' 7 = F 7) (h8 : F' 8 = F 8) (h10 : F' 10 = F 10) (h11 : F' 11 = F 11) (h12 : F' 12 = F 12) : SwI N qx qy bits tx sl o v n g G F' := by
  obtain ⟨S, a10, a11, k0, lo, loy, gl, hn, f7, f8, f10, f11, f12⟩ := I
  exact ⟨S, a10, a11, k0, lo, loy, gl, hn, h7.trans f7, h8.trans f8, h10.trans f10, h11.trans f11, h12.trans f12⟩
theorem swQ_of {N qx qy bits : Nat} {tx : TT} {g g' : Heap} {F F0 F' : FF} (Q : SwQ N qx qy bits tx g g' F F') (h6 : F 1 = F0 1) (h7 : F 7 = F0 7) (h8 : F 8 = F0 8) (h21 : F 21 = F0 21) (h22 : F 22 = F0 22) (h23 : F 23 = F0 23) (h35 : F 35 = F0 35) (h36 : F 36 = F0 36) (h37 : F 37 = F0 37) : SwQ N qx qy bits tx g g' F0 F' := by
  obtain ⟨ex, k, a6, a7, a8, a21, a22, a23, a35, a36, a37⟩ := Q
  exact ⟨ex, k, a6.trans h6, a7.trans h7, a8.trans h8, a21.trans h21, a22.trans h22, a23.trans h23, a35.trans h35, a36.trans h36, a37.trans h37⟩

set_option maxHeartbeats 2000000 in
theorem cl_switch {N qx qy bits : Nat} {tx : TT} {sl : NV} {o : OpD} {v : BitVec 128} {n : Int} (hb : bits ≤ 128) {g G : Heap} {F : FF} (I : SwI N qx qy bits tx sl o v n g G F) : fwpT E0 clD3 (joinK fun F' g' => SwQ N qx qy bits tx g g' F F') F G .mk := by
  rw [sw_body]
  have a7 := and7 o.k
  have hk : 0 ≤ o.k % 8 ∧ o.k % 8 < 8 := by omega
  have h10 := I.h10
  have l10 := hget_some_lt h10
  have f10 := I.f10
  simp (disch := first | omega | (simp only [fsLen]; omega)) only [↓fsPre, fsPost, fsCond, fsGen, fsDefs, cls, eqVal, vbGen, fill_bits, reduceCtorEq, Nat.reduceAdd, Nat.reduceMul, Nat.reduceSub, Nat.reduceLT, Nat.reduceLeDiff, Nat.reduceEqDiff, Nat.reduceBEq, Nat.reduceBNe, Int.reduceLT, Int.reduceLE, Int.reduceEq, Int.reduceNe, Int.reduceAdd, Int.reduceSub, Int.reduceNeg, Int.reduceToNat, Int.reduceMul, ↓reduceIte, Int.reduceGT, Int.reduceGE]
  simp only [swA, clD3, clD, clI, clP, clO, t4, NCode.a1, NCode.a2, NCode.bk, NCode.lp, NCode.ct, NCode.cf]
  simp (disch := first | omega | (simp only [fsLen]; omega)) only [↓fsPre, fsPost, fsCond, fsGen, fsDefs, cls, eqVal, vbGen, fill_bits, reduceCtorEq, Nat.reduceAdd, Nat.reduceMul, Nat.reduceSub, Nat.reduceLT, Nat.reduceLeDiff, Nat.reduceEqDiff, Nat.reduceBEq, Nat.reduceBNe, Int.reduceLT, Int.reduceLE, Int.reduceEq, Int.reduceNe, Int.reduceAdd, Int.reduceSub, Int.reduceNeg, Int.reduceToNat, Int.reduceMul, ↓reduceIte, Int.reduceGT, Int.reduceGE, f10, h10, nb_one, a7]
  generalize o.k % 8 = kk at *
  refine fwp_cutJ (fun F' g' => g' = G ∧ F' 75 = .bool (decide (kk ≤ 3)) ∧ F' 52 = .int .i64 kk ∧ (∀ i, i = 1 ∨ i = 7 ∨ i = 8 ∨ i = 10 ∨ i = 11 ∨ i = 12 ∨ i = 21 ∨ i = 22 ∨ i = 23 ∨ i = 35 ∨ i = 36 ∨ i = 37 → F' i = F i)) ?_ ?_
  · simp only [swB, clD3, clD, clI, clP, clO, t4, NCode.a1, NCode.a2, NCode.bk, NCode.lp, NCode.ct, NCode.cf]
    clear a7
    obtain rfl | rfl | rfl | rfl | h4 : kk = 0 ∨ kk = 1 ∨ kk = 2 ∨ kk = 3 ∨ 4 ≤ kk := by omega
    iterate 4
      · simp (disch := first | omega | (simp only [fsLen]; omega)) only [↓fsPre, fsPost, fsCond, fsGen, fsDefs, cls, eqVal, vbGen, fill_bits, reduceCtorEq, Nat.reduceAdd, Nat.reduceMul, Nat.reduceSub, Nat.reduceLT, Nat.reduceLeDiff, Nat.reduceEqDiff, Nat.reduceBEq, Nat.reduceBNe, Int.reduceLT, Int.reduceLE, Int.reduceEq, Int.reduceNe, Int.reduceAdd, Int.reduceSub, Int.reduceNeg, Int.reduceToNat, Int.reduceMul, ↓reduceIte, Int.reduceGT, Int.reduceGE]
        rintro i (rfl | rfl | rfl | rfl | rfl | rfl | rfl | rfl | rfl | rfl | rfl | rfl) <;> simp (disch := first | omega | (simp only [fsLen]; omega)) only [↓fsPre, fsPost, fsCond, fsGen, fsDefs, cls, eqVal, vbGen, fill_bits, reduceCtorEq, Nat.reduceAdd, Nat.reduceMul, Nat.reduceSub, Nat.reduceLT, Nat.reduceLeDiff, Nat.reduceEqDiff, Nat.reduceBEq, Nat.reduceBNe, Int.reduceLT, Int.reduceLE, Int.reduceEq, Int.reduceNe, Int.reduceAdd, Int.reduceSub, Int.reduceNeg, Int.reduceToNat, Int.reduceMul, ↓reduceIte, Int.reduceGT, Int.reduceGE]
    · have e0 : decide (kk = 0) = false := by simp; omega
      have e1 : decide (kk = 1) = false := by simp; omega
      have e2 : decide (kk = 2) = false := by simp; omega
      have e3 : decide (kk = 3) = false := by simp; omega
      have e4 : decide (kk ≤ 3) = false := by simp; omega
      simp (disch := first | omega | (simp only [fsLen]; omega)) only [↓fsPre, fsPost, fsCond, fsGen, fsDefs, cls, eqVal, vbGen, fill_bits, reduceCtorEq, Nat.reduceAdd, Nat.reduceMul, Nat.reduceSub, Nat.reduceLT, Nat.reduceLeDiff, Nat.reduceEqDiff, Nat.reduceBEq, Nat.reduceBNe, Int.reduceLT, Int.reduceLE, Int.reduceEq, Int.reduceNe, Int.reduceAdd, Int.reduceSub, Int.reduceNeg, Int.reduceToNat, Int.reduceMul, ↓reduceIte, Int.reduceGT, Int.reduceGE, e0, e1, e2, e3, e4]
      rintro i (rfl | rfl | rfl | rfl | rfl | rfl | rfl | rfl | rfl | rfl | rfl | rfl) <;> simp (disch := first | omega | (simp only [fsLen]; omega)) only [↓fsPre, fsPost, fsCond, fsGen, fsDefs, cls, eqVal, vbGen, fill_bits, reduceCtorEq, Nat.reduceAdd, Nat.reduceMul, Nat.reduceSub, Nat.reduceLT, Nat.reduceLeDiff, Nat.reduceEqDiff, Nat.reduceBEq, Nat.reduceBNe, Int.reduceLT, Int.reduceLE, Int.reduceEq, Int.reduceNe, Int.reduceAdd, Int.reduceSub, Int.reduceNeg, Int.reduceToNat, Int.reduceMul, ↓reduceIte, Int.reduceGT, Int.reduceGE]
  rintro F1 g1 ⟨rfl, f75, f52, keep⟩
  have I1 := swI_of I (keep 7 (by omega)) (keep 8 (by omega)) (keep 10 (by omega)) (keep 11 (by omega)) (keep 12 (by omega))
  have fin : ∀ {F2 : FF} {g2 : Heap}, SwQ N qx qy bits tx g g2 F1 F2 → SwQ N qx qy bits tx g g2 F F2 := fun Q => swQ_of Q (keep _ (by omega)) (keep _ (by omega)) (keep _ (by omega)) (keep _ (by omega)) (keep _ (by omega)) (keep _ (by omega)) (keep _ (by omega)) (keep _ (by omega)) (keep _ (by omega))
  cases hd : decide (kk ≤ 3) with
  | true =>
    rw [hd] at f75
    simp (disch := first | omega | (simp only [fsLen]; omega)) only [↓fsPre, fsPost, fsCond, fsGen, fsDefs, cls, eqVal, vbGen, fill_bits, reduceCtorEq, Nat.reduceAdd, Nat.reduceMul, Nat.reduceSub, Nat.reduceLT, Nat.reduceLeDiff, Nat.reduceEqDiff, Nat.reduceBEq, Nat.reduceBNe, Int.reduceLT, Int.reduceLE, Int.reduceEq, Int.reduceNe, Int.reduceAdd, Int.reduceSub, Int.reduceNeg, Int.reduceToNat, Int.reduceMul, ↓reduceIte, Int.reduceGT, Int.reduceGE, f75]
    refine fwp_cutJ _ (sw_put hb I1) ?_
    rintro F2 g2 Q
    simp (disch := first | omega | (simp only [fsLen]; omega)) only [↓fsPre, fsPost, fsCond, fsGen, fsDefs, cls, eqVal, vbGen, fill_bits, reduceCtorEq, Nat.reduceAdd, Nat.reduceMul, Nat.reduceSub, Nat.reduceLT, Nat.reduceLeDiff, Nat.reduceEqDiff, Nat.reduceBEq, Nat.reduceBNe, Int.reduceLT, Int.reduceLE, Int.reduceEq, Int.reduceNe, Int.reduceAdd, Int.reduceSub, Int.reduceNeg, Int.reduceToNat, Int.reduceMul, ↓reduceIte, Int.reduceGT, Int.reduceGE]
    exact fin Q
  | false =>
    rw [hd] at f75
    simp (disch := first | omega | (simp only [fsLen]; omega)) only [↓fsPre, fsPost, fsCond, fsGen, fsDefs, cls, eqVal, vbGen, fill_bits, reduceCtorEq, Nat.reduceAdd, Nat.reduceMul, Nat.reduceSub, Nat.reduceLT, Nat.reduceLeDiff, Nat.reduceEqDiff, Nat.reduceBEq, Nat.reduceBNe, Int.reduceLT, Int.reduceLE, Int.reduceEq, Int.reduceNe, Int.reduceAdd, Int.reduceSub, Int.reduceNeg, Int.reduceToNat, Int.reduceMul, ↓reduceIte, Int.reduceGT, Int.reduceGE, f75]
    have h4 : 4 ≤ kk := by have := of_decide_eq_false hd; omega
    refine fwp_cutJ (fun F' g' => g' = g1 ∧ F' 93 = .bool (decide (kk ≤ 5)) ∧ (∀ i, i = 1 ∨ i = 7 ∨ i = 8 ∨ i = 10 ∨ i = 11 ∨ i = 12 ∨ i = 21 ∨ i = 22 ∨ i = 23 ∨ i = 35 ∨ i = 36 ∨ i = 37 → F' i = F i)) ?_ ?_
    · simp only [swC, clD3, clD, clI, clP, clO, t4, NCode.a1, NCode.a2, NCode.bk, NCode.lp, NCode.ct, NCode.cf]
      clear a7 hd
      obtain rfl | rfl | h6 : kk = 4 ∨ kk = 5 ∨ 6 ≤ kk := by omega
      iterate 2
        · simp (disch := first | omega | (simp only [fsLen]; omega)) only [↓fsPre, fsPost, fsCond, fsGen, fsDefs, cls, eqVal, vbGen, fill_bits, reduceCtorEq, Nat.reduceAdd, Nat.reduceMul, Nat.reduceSub, Nat.reduceLT, Nat.reduceLeDiff, Nat.reduceEqDiff, Nat.reduceBEq, Nat.reduceBNe, Int.reduceLT, Int.reduceLE, Int.reduceEq, Int.reduceNe, Int.reduceAdd, Int.reduceSub, Int.reduceNeg, Int.reduceToNat, Int.reduceMul, ↓reduceIte, Int.reduceGT, Int.reduceGE, f52]
          rintro i (rfl | rfl | rfl | rfl | rfl | rfl | rfl | rfl | rfl | rfl | rfl | rfl) <;> simp (disch := first | omega | (simp only [fsLen]; omega)) only [↓fsPre, fsPost, fsCond, fsGen, fsDefs, cls, eqVal, vbGen, fill_bits, reduceCtorEq, Nat.reduceAdd, Nat.reduceMul, Nat.reduceSub, Nat.reduceLT, Nat.reduceLeDiff, Nat.reduceEqDiff, Nat.reduceBEq, Nat.reduceBNe, Int.reduceLT, Int.reduceLE, Int.reduceEq, Int.reduceNe, Int.reduceAdd, Int.reduceSub, Int.reduceNeg, Int.reduceToNat, Int.reduceMul, ↓reduceIte, Int.reduceGT, Int.reduceGE] <;> exact keep _ (by omega)
      · have e0 : decide (kk = 4) = false := by simp; omega
        have e1 : decide (kk = 5) = false := by simp; omega
        have e4 : decide (kk ≤ 5) = false := by simp; omega
        simp (disch := first | omega | (simp only [fsLen]; omega)) only [↓fsPre, fsPost, fsCond, fsGen, fsDefs, cls, eqVal, vbGen, fill_bits, reduceCtorEq, Nat.reduceAdd, Nat.reduceMul, Nat.reduceSub, Nat.reduceLT, Nat.reduceLeDiff, Nat.reduceEqDiff, Nat.reduceBEq, Nat.reduceBNe, Int.reduceLT, Int.reduceLE, Int.reduceEq, Int.reduceNe, Int.reduceAdd, Int.reduceSub, Int.reduceNeg, Int.reduceToNat, Int.reduceMul, ↓reduceIte, Int.reduceGT, Int.reduceGE, f52, e0, e1, e4]
        rintro i (rfl | rfl | rfl | rfl | rfl | rfl | rfl | rfl | rfl | rfl | rfl | rfl) <;> simp (disch := first | omega | (simp only [fsLen]; omega)) only [↓fsPre, fsPost, fsCond, fsGen, fsDefs, cls, eqVal, vbGen, fill_bits, reduceCtorEq, Nat.reduceAdd, Nat.reduceMul, Nat.reduceSub, Nat.reduceLT, Nat.reduceLeDiff, Nat.reduceEqDiff, Nat.reduceBEq, Nat.reduceBNe, Int.reduceLT, Int.reduceLE, Int.reduceEq, Int.reduceNe, Int.reduceAdd, Int.reduceSub, Int.reduceNeg, Int.reduceToNat, Int.reduceMul, ↓reduceIte, Int.reduceGT, Int.reduceGE] <;> exact keep _ (by omega)
    clear fin keep f52 f75 I1 F1
    rintro F1 g1 ⟨rfl, f93, keep⟩
    have I1 := swI_of I (keep 7 (by omega)) (keep 8 (by omega)) (keep 10 (by omega)) (keep 11 (by omega)) (keep 12 (by omega))
    have fin : ∀ {F2 : FF} {g2 : Heap}, SwQ N qx qy bits tx g g2 F1 F2 → SwQ N qx qy bits tx g g2 F F2 := fun Q => swQ_of Q (keep _ (by omega)) (keep _ (by omega)) (keep _ (by omega)) (keep _ (by omega)) (keep _ (by omega)) (keep _ (by omega)) (keep _ (by omega)) (keep _ (by omega)) (keep _ (by omega))
    cases hd5 : decide (kk ≤ 5) with
    | true =>
      rw [hd5] at f93
      simp (disch := first | omega | (simp only [fsLen]; omega)) only [↓fsPre, fsPost, fsCond, fsGen, fsDefs, cls, eqVal, vbGen, fill_bits, reduceCtorEq, Nat.reduceAdd, Nat.reduceMul, Nat.reduceSub, Nat.reduceLT, Nat.reduceLeDiff, Nat.reduceEqDiff, Nat.reduceBEq, Nat.reduceBNe, Int.reduceLT, Int.reduceLE, Int.reduceEq, Int.reduceNe, Int.reduceAdd, Int.reduceSub, Int.reduceNeg, Int.reduceToNat, Int.reduceMul, ↓reduceIte, Int.reduceGT, Int.reduceGE, f93]
      refine fwp_cutJ _ (sw_rem hb I1) ?_
      rintro F2 g2 Q
      simp (disch := first | omega | (simp only [fsLen]; omega)) only [↓fsPre, fsPost, fsCond, fsGen, fsDefs, cls, eqVal, vbGen, fill_bits, reduceCtorEq, Nat.reduceAdd, Nat.reduceMul, Nat.reduceSub, Nat.reduceLT, Nat.reduceLeDiff, Nat.reduceEqDiff, Nat.reduceBEq, Nat.reduceBNe, Int.reduceLT, Int.reduceLE, Int.reduceEq, Int.reduceNe, Int.reduceAdd, Int.reduceSub, Int.reduceNeg, Int.reduceToNat, Int.reduceMul, ↓reduceIte, Int.reduceGT, Int.reduceGE]
      exact fin Q
    | false =>
      rw [hd5] at f93
      simp (disch := first | omega | (simp only [fsLen]; omega)) only [↓fsPre, fsPost, fsCond, fsGen, fsDefs, cls, eqVal, vbGen, fill_bits, reduceCtorEq, Nat.reduceAdd, Nat.reduceMul, Nat.reduceSub, Nat.reduceLT, Nat.reduceLeDiff, Nat.reduceEqDiff, Nat.reduceBEq, Nat.reduceBNe, Int.reduceLT, Int.reduceLE, Int.reduceEq, Int.reduceNe, Int.reduceAdd, Int.reduceSub, Int.reduceNeg, Int.reduceToNat, Int.reduceMul, ↓reduceIte, Int.reduceGT, Int.reduceGE, f93]
      refine fwp_cutJ _ (sw_get hb I1) ?_
      rintro F2 g2 Q
      simp (disch := first | omega | (simp only [fsLen]; omega)) only [↓fsPre, fsPost, fsCond, fsGen, fsDefs, cls, eqVal, vbGen, fill_bits, reduceCtorEq, Nat.reduceAdd, Nat.reduceMul, Nat.reduceSub, Nat.reduceLT, Nat.reduceLeDiff, Nat.reduceEqDiff, Nat.reduceBEq, Nat.reduceBNe, Int.reduceLT, Int.reduceLE, Int.reduceEq, Int.reduceNe, Int.reduceAdd, Int.reduceSub, Int.reduceNeg, Int.reduceToNat, Int.reduceMul, ↓reduceIte, Int.reduceGT, Int.reduceGE]
      exact fin Q
end Go.Proofs
