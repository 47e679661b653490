/- Trie: the document's Longest. -/
import Derived.Test.YtiiopgancdgioaaVbE
import Derived.Test.YtiiopgancdgioaaTLTo
set_option linter.unusedSimpArgs false
set_option linter.unusedVariables false
set_option maxRecDepth 100000
namespace Go.Proofs
open Go.Ns

def covB (bits : Nat) (v : BitVec 128) (x : PfT) : Bool := v &&& leadV bits x.1.2 == x.1.1
def stepL (bits : Nat) (v : BitVec 128) (a : Int × Int × Bool) (x : PfT) : Int × Int × Bool := if covB bits v x = true ∧ (a.2.2 = false ∨ x.1.2 > a.1) ∧ bl v.toNat ≤ bits then (x.1.2, x.2, true) else a

set_option maxHeartbeats 1000000 in
theorem rlong_ok (H : Heap) (q bits : Nat) (sl : NV) (L : List PfT) (v : BitVec 128) (hq : hget H q = some (.cells [.int .i64 bits, sl] false)) (hg : GrE H (L.flatMap pfC) sl) (hL : L.length ≤ 100) :
    NCall Try.prog 15 [.ptr (some (q, 0)), vnv v] H fun r => r = (let a := L.foldl (stepL bits v) (0, 0, false); .tup [.int .i64 a.1, .int .i64 a.2.1, .bool a.2.2], H) := by
  have lq := hget_some_lt hq
  refine call_pure E0 mixed t15_ok (by kernel_rfl) ⟨trivial, trivial, trivial, trivial⟩ ?_
  have hl := fun H a b => rlead_ok H a b
  have ha := fun H a b => rand_ok H a b
  have hf := fun H n => rfits_ok H v n
  obtain ⟨A, c, rfl, hAc⟩ := hg.prs
  simp only [t15, vnv] at hl ha hf ⊢
  simp (disch := first | omega | (simp only [fsLen]; omega)) only [↓fsPre, fsPost, fsCond, fsGen, fsDefs, cls, eqVal, vbGen, fill_bits, reduceCtorEq, Nat.reduceAdd, Nat.reduceMul, Nat.reduceSub, Nat.reduceLT, Nat.reduceLeDiff, Nat.reduceEqDiff, Nat.reduceBEq, Nat.reduceBNe, Int.reduceLT, Int.reduceLE, Int.reduceEq, Int.reduceNe, Int.reduceAdd, Int.reduceSub, Int.reduceNeg, Int.reduceToNat, Int.reduceMul, ↓reduceIte, Int.reduceGT, Int.reduceGE, hq]
  refine wloop (fun j F h => F 0 = .ptr (some (q, 0)) ∧ F 3 = .ptr (some (H.length, 0)) ∧ F 15 = .slice A L.length c ∧ F 16 = .int .i64 L.length ∧ F 17 = .int .i64 j ∧ (∃ J, h = H ++ some (.cells [nb (hiOf v), nb (loOf v)] false) :: J) ∧
    F 7 = .int .i64 ((L.take j).foldl (stepL bits v) (0, 0, false)).1 ∧ F 8 = .int .i64 ((L.take j).foldl (stepL bits v) (0, 0, false)).2.1 ∧ F 9 = .bool ((L.take j).foldl (stepL bits v) (0, 0, false)).2.2) L.length ?_ ?_ ?_
  · simp (disch := first | omega | (simp only [fsLen]; omega)) only [↓fsPre, fsPost, fsCond, fsGen, fsDefs, cls, eqVal, vbGen, fill_bits, reduceCtorEq, Nat.reduceAdd, Nat.reduceMul, Nat.reduceSub, Nat.reduceLT, Nat.reduceLeDiff, Nat.reduceEqDiff, Nat.reduceBEq, Nat.reduceBNe, Int.reduceLT, Int.reduceLE, Int.reduceEq, Int.reduceNe, Int.reduceAdd, Int.reduceSub, Int.reduceNeg, Int.reduceToNat, Int.reduceMul, ↓reduceIte, Int.reduceGT, Int.reduceGE, List.foldl_nil]
    exact ⟨[], rfl⟩
  · rintro j F h hj ⟨f0, f3, f15, f16, f17, ⟨J, rfl⟩, f7, f8, f9⟩
    rcases hAc with ⟨_, rfl⟩ | ⟨rfl, hp0, b, rfl, hb⟩
    · exact absurd hj (by simp)
    have hbl := hget_some_lt hb
    have hd : decide ((j : Int) < (L.length : Int)) = true := by simp; omega
    have hc : cut (L.flatMap pfC) (j * 4) 4 = some (pfC L[j]) := cut_flatMap pfC_length hj
    have htk : (L.take (j + 1)).foldl (stepL bits v) (0, 0, false) = stepL bits v ((L.take j).foldl (stepL bits v) (0, 0, false)) L[j] := by
      rw [← List.take_append_getElem hj, List.foldl_append]; rfl
    rw [htk]
    generalize (L.take j).foldl (stepL bits v) (0, 0, false) = a at *
    obtain ⟨an, ai, af⟩ := a
    simp only at f7 f8 f9
    simp only [pfC] at hc
    have hvb : hget (H ++ some (.cells [nb (hiOf v), nb (loOf v)] false) :: J) H.length = some (.cells [nb (hiOf v), nb (loOf v)] false) := by
      rw [hget_appr (Nat.le_refl _), Nat.sub_self]; rfl
    have hqb : hget (H ++ some (.cells [nb (hiOf v), nb (loOf v)] false) :: J) q = some (.cells [.int .i64 bits, .slice (some (b, 0)) L.length (.opn 4)] false) := by rw [hget_appl lq]; exact hq
    have hbb : hget (H ++ some (.cells [nb (hiOf v), nb (loOf v)] false) :: J) b = some (.cells (L.flatMap pfC) false) := by rw [hget_appl hbl]; exact hb
    have la : ∀ b, b < (H ++ some (NBlk.cells [nb (hiOf v), nb (loOf v)] false) :: J).length → b < (H ++ some (NBlk.cells [nb (hiOf v), nb (loOf v)] false) :: J).length := fun _ h => h
    have l1 := hget_some_lt hvb
    have l2 := hget_some_lt hqb
    have l3 := hget_some_lt hbb
    generalize hG : H ++ some (NBlk.cells [nb (hiOf v), nb (loOf v)] false) :: J = G at *
    have hJ : ∀ X : Heap, ∃ J', G ++ X = H ++ some (.cells [nb (hiOf v), nb (loOf v)] false) :: J' := fun X => ⟨J ++ X, by rw [← hG]; simp⟩
    simp (disch := first | omega | (simp only [fsLen]; omega)) only [↓fsPre, fsPost, fsCond, fsGen, fsDefs, cls, eqVal, vbGen, fill_bits, reduceCtorEq, Nat.reduceAdd, Nat.reduceMul, Nat.reduceSub, Nat.reduceLT, Nat.reduceLeDiff, Nat.reduceEqDiff, Nat.reduceBEq, Nat.reduceBNe, Int.reduceLT, Int.reduceLE, Int.reduceEq, Int.reduceNe, Int.reduceAdd, Int.reduceSub, Int.reduceNeg, Int.reduceToNat, Int.reduceMul, ↓reduceIte, Int.reduceGT, Int.reduceGE, f0, f3, f15, f16, f17, hd, hbb, hc, nb_one, hvb, hqb]
    refine callDT_one (hl _ _ _) rfl ?_
    simp (disch := first | omega | (simp only [fsLen]; omega)) only [↓fsPre, fsPost, fsCond, fsGen, fsDefs, cls, eqVal, vbGen, fill_bits, reduceCtorEq, Nat.reduceAdd, Nat.reduceMul, Nat.reduceSub, Nat.reduceLT, Nat.reduceLeDiff, Nat.reduceEqDiff, Nat.reduceBEq, Nat.reduceBNe, Int.reduceLT, Int.reduceLE, Int.reduceEq, Int.reduceNe, Int.reduceAdd, Int.reduceSub, Int.reduceNeg, Int.reduceToNat, Int.reduceMul, ↓reduceIte, Int.reduceGT, Int.reduceGE, f0, f3, f15, f16, f17, hd, hbb, hc, nb_one, hvb, hqb]
    refine callDT_one (ha _ _ _) rfl ?_
    by_cases hcv : covB bits v L[j] = true
    · have hw : (hiOf (v &&& leadV bits L[j].1.2) == hiOf L[j].1.1 && loOf (v &&& leadV bits L[j].1.2) == loOf L[j].1.1) = true := by rw [words_eq]; exact hcv
      cases af with
      | false =>
        simp (disch := first | omega | (simp only [fsLen]; omega)) only [↓fsPre, fsPost, fsCond, fsGen, fsDefs, cls, eqVal, vbGen, fill_bits, reduceCtorEq, Nat.reduceAdd, Nat.reduceMul, Nat.reduceSub, Nat.reduceLT, Nat.reduceLeDiff, Nat.reduceEqDiff, Nat.reduceBEq, Nat.reduceBNe, Int.reduceLT, Int.reduceLE, Int.reduceEq, Int.reduceNe, Int.reduceAdd, Int.reduceSub, Int.reduceNeg, Int.reduceToNat, Int.reduceMul, ↓reduceIte, Int.reduceGT, Int.reduceGE, f0, f3, f15, f16, f17, hd, hbb, hc, nb_one, hvb, hqb, hw, f7, f8, f9]
        refine callDT_one (hf _ _) rfl ?_
        by_cases hfit : bl v.toNat ≤ bits
        · have hd3 : decide ((bl v.toNat : Int) ≤ (bits : Int)) = true := by simpa using hfit
          have hst : stepL bits v (an, ai, false) L[j] = (L[j].1.2, L[j].2, true) := by unfold stepL; rw [if_pos ⟨hcv, .inl rfl, hfit⟩]
          rw [hst]
          simp (disch := first | omega | (simp only [fsLen]; omega)) only [↓fsPre, fsPost, fsCond, fsGen, fsDefs, cls, eqVal, vbGen, fill_bits, reduceCtorEq, Nat.reduceAdd, Nat.reduceMul, Nat.reduceSub, Nat.reduceLT, Nat.reduceLeDiff, Nat.reduceEqDiff, Nat.reduceBEq, Nat.reduceBNe, Int.reduceLT, Int.reduceLE, Int.reduceEq, Int.reduceNe, Int.reduceAdd, Int.reduceSub, Int.reduceNeg, Int.reduceToNat, Int.reduceMul, ↓reduceIte, Int.reduceGT, Int.reduceGE, f0, f3, f15, f16, f17, hd, hbb, hc, nb_one, hvb, hqb, hw, f7, f8, f9, hd3]
          exact hJ _
        · have hd3 : decide ((bl v.toNat : Int) ≤ (bits : Int)) = false := by simpa using hfit
          have hst : stepL bits v (an, ai, false) L[j] = (an, ai, false) := by unfold stepL; rw [if_neg (fun x => hfit x.2.2)]
          rw [hst]
          simp (disch := first | omega | (simp only [fsLen]; omega)) only [↓fsPre, fsPost, fsCond, fsGen, fsDefs, cls, eqVal, vbGen, fill_bits, reduceCtorEq, Nat.reduceAdd, Nat.reduceMul, Nat.reduceSub, Nat.reduceLT, Nat.reduceLeDiff, Nat.reduceEqDiff, Nat.reduceBEq, Nat.reduceBNe, Int.reduceLT, Int.reduceLE, Int.reduceEq, Int.reduceNe, Int.reduceAdd, Int.reduceSub, Int.reduceNeg, Int.reduceToNat, Int.reduceMul, ↓reduceIte, Int.reduceGT, Int.reduceGE, f0, f3, f15, f16, f17, hd, hbb, hc, nb_one, hvb, hqb, hw, f7, f8, f9, hd3]
          exact hJ _
      | true =>
        by_cases hgt : an < L[j].1.2
        · have hd4 : decide (an < L[j].1.2) = true := by simpa using hgt
          simp (disch := first | omega | (simp only [fsLen]; omega)) only [↓fsPre, fsPost, fsCond, fsGen, fsDefs, cls, eqVal, vbGen, fill_bits, reduceCtorEq, Nat.reduceAdd, Nat.reduceMul, Nat.reduceSub, Nat.reduceLT, Nat.reduceLeDiff, Nat.reduceEqDiff, Nat.reduceBEq, Nat.reduceBNe, Int.reduceLT, Int.reduceLE, Int.reduceEq, Int.reduceNe, Int.reduceAdd, Int.reduceSub, Int.reduceNeg, Int.reduceToNat, Int.reduceMul, ↓reduceIte, Int.reduceGT, Int.reduceGE, f0, f3, f15, f16, f17, hd, hbb, hc, nb_one, hvb, hqb, hw, f7, f8, f9, hd4]
          refine callDT_one (hf _ _) rfl ?_
          by_cases hfit : bl v.toNat ≤ bits
          · have hd3 : decide ((bl v.toNat : Int) ≤ (bits : Int)) = true := by simpa using hfit
            have hst : stepL bits v (an, ai, true) L[j] = (L[j].1.2, L[j].2, true) := by unfold stepL; rw [if_pos ⟨hcv, .inr hgt, hfit⟩]
            rw [hst]
            simp (disch := first | omega | (simp only [fsLen]; omega)) only [↓fsPre, fsPost, fsCond, fsGen, fsDefs, cls, eqVal, vbGen, fill_bits, reduceCtorEq, Nat.reduceAdd, Nat.reduceMul, Nat.reduceSub, Nat.reduceLT, Nat.reduceLeDiff, Nat.reduceEqDiff, Nat.reduceBEq, Nat.reduceBNe, Int.reduceLT, Int.reduceLE, Int.reduceEq, Int.reduceNe, Int.reduceAdd, Int.reduceSub, Int.reduceNeg, Int.reduceToNat, Int.reduceMul, ↓reduceIte, Int.reduceGT, Int.reduceGE, f0, f3, f15, f16, f17, hd, hbb, hc, nb_one, hvb, hqb, hw, f7, f8, f9, hd3]
            exact hJ _
          · have hd3 : decide ((bl v.toNat : Int) ≤ (bits : Int)) = false := by simpa using hfit
            have hst : stepL bits v (an, ai, true) L[j] = (an, ai, true) := by unfold stepL; rw [if_neg (fun x => hfit x.2.2)]
            rw [hst]
            simp (disch := first | omega | (simp only [fsLen]; omega)) only [↓fsPre, fsPost, fsCond, fsGen, fsDefs, cls, eqVal, vbGen, fill_bits, reduceCtorEq, Nat.reduceAdd, Nat.reduceMul, Nat.reduceSub, Nat.reduceLT, Nat.reduceLeDiff, Nat.reduceEqDiff, Nat.reduceBEq, Nat.reduceBNe, Int.reduceLT, Int.reduceLE, Int.reduceEq, Int.reduceNe, Int.reduceAdd, Int.reduceSub, Int.reduceNeg, Int.reduceToNat, Int.reduceMul, ↓reduceIte, Int.reduceGT, Int.reduceGE, f0, f3, f15, f16, f17, hd, hbb, hc, nb_one, hvb, hqb, hw, f7, f8, f9, hd3]
            exact hJ _
        · have hd4 : decide (an < L[j].1.2) = false := by simpa using hgt
          have hst : stepL bits v (an, ai, true) L[j] = (an, ai, true) := by
            unfold stepL
            rw [if_neg]
            rintro ⟨_, h | h, _⟩
            · cases h
            · exact hgt h
          rw [hst]
          simp (disch := first | omega | (simp only [fsLen]; omega)) only [↓fsPre, fsPost, fsCond, fsGen, fsDefs, cls, eqVal, vbGen, fill_bits, reduceCtorEq, Nat.reduceAdd, Nat.reduceMul, Nat.reduceSub, Nat.reduceLT, Nat.reduceLeDiff, Nat.reduceEqDiff, Nat.reduceBEq, Nat.reduceBNe, Int.reduceLT, Int.reduceLE, Int.reduceEq, Int.reduceNe, Int.reduceAdd, Int.reduceSub, Int.reduceNeg, Int.reduceToNat, Int.reduceMul, ↓reduceIte, Int.reduceGT, Int.reduceGE, f0, f3, f15, f16, f17, hd, hbb, hc, nb_one, hvb, hqb, hw, f7, f8, f9, hd4]
          exact hJ _
    · have hw : (hiOf (v &&& leadV bits L[j].1.2) == hiOf L[j].1.1 && loOf (v &&& leadV bits L[j].1.2) == loOf L[j].1.1) = false := by rw [words_eq]; simpa [covB] using hcv
      have hst : stepL bits v (an, ai, af) L[j] = (an, ai, af) := by unfold stepL; rw [if_neg (fun x => hcv x.1)]
      rw [hst]
      simp (disch := first | omega | (simp only [fsLen]; omega)) only [↓fsPre, fsPost, fsCond, fsGen, fsDefs, cls, eqVal, vbGen, fill_bits, reduceCtorEq, Nat.reduceAdd, Nat.reduceMul, Nat.reduceSub, Nat.reduceLT, Nat.reduceLeDiff, Nat.reduceEqDiff, Nat.reduceBEq, Nat.reduceBNe, Int.reduceLT, Int.reduceLE, Int.reduceEq, Int.reduceNe, Int.reduceAdd, Int.reduceSub, Int.reduceNeg, Int.reduceToNat, Int.reduceMul, ↓reduceIte, Int.reduceGT, Int.reduceGE, f0, f3, f15, f16, f17, hd, hbb, hc, nb_one, hvb, hqb, hw, f7, f8, f9]
      exact hJ _
  · rintro F h ⟨f0, f3, f15, f16, f17, ⟨J, rfl⟩, f7, f8, f9⟩
    rw [List.take_length] at f7 f8 f9
    simp (disch := first | omega | (simp only [fsLen]; omega)) only [↓fsPre, fsPost, fsCond, fsGen, fsDefs, cls, eqVal, vbGen, fill_bits, reduceCtorEq, Nat.reduceAdd, Nat.reduceMul, Nat.reduceSub, Nat.reduceLT, Nat.reduceLeDiff, Nat.reduceEqDiff, Nat.reduceBEq, Nat.reduceBNe, Int.reduceLT, Int.reduceLE, Int.reduceEq, Int.reduceNe, Int.reduceAdd, Int.reduceSub, Int.reduceNeg, Int.reduceToNat, Int.reduceMul, ↓reduceIte, Int.reduceGT, Int.reduceGE, f0, f3, f15, f16, f17, f7, f8, f9]
    exact ⟨_, rfl⟩
end Go.Proofs
