/- Ta, Tb, Tc in one text. -/
import Derived.Test.YtiiopgancdgioaaVbE
import Derived.Test.YtiiopgancdgioaaTCVX
import Derived.Test.YtiiopgancdgioaaFsN
import Derived.Test.YtiiopgancdgioaaTrX
set_option linter.unusedSimpArgs false
set_option linter.unusedVariables false
set_option maxRecDepth 100000
namespace Go.Proofs
open Go.Ns

/-- The bit of a value at a depth of a trie. -/
def bitAt (bits : Nat) (v : BitVec 128) (i : Nat) : Bool := v.getLsbD (bits - 1 - i)
def bitNV (b : Bool) : NV := .int .i64 (if b then 1 else 0)
def pathV (bits n : Nat) (v : BitVec 128) : List NV := (List.range n).map fun i => bitNV (bitAt bits v i)
theorem pathV_length {bits n : Nat} {v : BitVec 128} : (pathV bits n v).length = n := by simp [pathV]
structure KeepP (a b c q bits n : Nat) (v : BitVec 128) (h : Heap) : Prop where
  n : hget h a = some (.cells [.int .i64 n] false)
  v : hget h b = some (.cells [nb (hiOf v), nb (loOf v)] false)
  t : hget h c = some (.cells [.ptr (some (q, 0))] false)
  q : ∃ r, hget h q = some (.cells [.int .i64 bits, r] false)

theorem iter_path (a b c q bits n : Nat) (v : BitVec 128) (hb : bits ≤ 128) (hn : n ≤ bits) :
    Iter Try.prog 46 [.ptr (some (a, 0)), .ptr (some (b, 0)), .ptr (some (c, 0))] (pathV bits n v) (KeepP a b c q bits n v) := by
  refine iter_of_ywp E0 mixed t46_ok.2 rfl (by kernel_rfl) ?_
  intro l h hk
  obtain ⟨k1, k2, k3, r, k4⟩ := id hk
  simp only [t46]
  rw [yw_seq, yw_ops rfl]
  simp (disch := first | omega | (simp only [fsLen]; omega)) only [↓fsPre, fsPost, fsCond, fsGen, fsDefs, cls, eqVal, vbGen, fill_bits, reduceCtorEq, Nat.reduceAdd, Nat.reduceMul, Nat.reduceSub, Nat.reduceLT, Nat.reduceLeDiff, Nat.reduceEqDiff, Nat.reduceBEq, Nat.reduceBNe, Int.reduceLT, Int.reduceLE, Int.reduceEq, Int.reduceNe, Int.reduceAdd, Int.reduceSub, Int.reduceNeg, Int.reduceToNat, Int.reduceMul, ↓reduceIte, Int.reduceGT, Int.reduceGE, k1, yseqK_nrm, yw_block]
  refine yw_loop (fun j F h => F 0 = .func (.yield l) [] [] ∧ F 1 = .ptr (some (a, 0)) ∧ F 2 = .ptr (some (b, 0)) ∧ F 3 = .ptr (some (c, 0)) ∧ F 7 = .int .i64 n ∧ F 8 = .int .i64 j ∧ KeepP a b c q bits n v h) n ?_ ?_ ?_
  · simp (disch := first | omega | (simp only [fsLen]; omega)) only [↓fsPre, fsPost, fsCond, fsGen, fsDefs, cls, eqVal, vbGen, fill_bits, reduceCtorEq, Nat.reduceAdd, Nat.reduceMul, Nat.reduceSub, Nat.reduceLT, Nat.reduceLeDiff, Nat.reduceEqDiff, Nat.reduceBEq, Nat.reduceBNe, Int.reduceLT, Int.reduceLE, Int.reduceEq, Int.reduceNe, Int.reduceAdd, Int.reduceSub, Int.reduceNeg, Int.reduceToNat, Int.reduceMul, ↓reduceIte, Int.reduceGT, Int.reduceGE]
    exact hk
  · rintro j F h hj ⟨f0, f1, f2, f3, f7, f8, hk⟩
    obtain ⟨k1, k2, k3, r, k4⟩ := id hk
    have hd : decide ((j : Int) < (n : Int)) = true := by simp; omega
    rw [yw_seq, yw_ops rfl]
    simp (disch := first | omega | (simp only [fsLen]; omega)) only [↓fsPre, fsPost, fsCond, fsGen, fsDefs, cls, eqVal, vbGen, fill_bits, reduceCtorEq, Nat.reduceAdd, Nat.reduceMul, Nat.reduceSub, Nat.reduceLT, Nat.reduceLeDiff, Nat.reduceEqDiff, Nat.reduceBEq, Nat.reduceBNe, Int.reduceLT, Int.reduceLE, Int.reduceEq, Int.reduceNe, Int.reduceAdd, Int.reduceSub, Int.reduceNeg, Int.reduceToNat, Int.reduceMul, ↓reduceIte, Int.reduceGT, Int.reduceGE, yseqK_nrm, yseqK_exit, yseqK_ret, yw_seq, yw_cond, yw_skip, yw_exit, yw_ret, yw_block, yblockK_nrm, yblockK_ret, yblockK_same, yblockK_other, yloopK_nrm, yloopK_exit, yloopK_ret, f7, f8, hd]
    rw [yw_ops rfl]
    simp (disch := first | omega | (simp only [fsLen]; omega)) only [↓fsPre, fsPost, fsCond, fsGen, fsDefs, cls, eqVal, vbGen, fill_bits, reduceCtorEq, Nat.reduceAdd, Nat.reduceMul, Nat.reduceSub, Nat.reduceLT, Nat.reduceLeDiff, Nat.reduceEqDiff, Nat.reduceBEq, Nat.reduceBNe, Int.reduceLT, Int.reduceLE, Int.reduceEq, Int.reduceNe, Int.reduceAdd, Int.reduceSub, Int.reduceNeg, Int.reduceToNat, Int.reduceMul, ↓reduceIte, Int.reduceGT, Int.reduceGE, yseqK_nrm, yseqK_exit, yseqK_ret, yw_seq, yw_cond, yw_skip, yw_exit, yw_ret, yw_block, yblockK_nrm, yblockK_ret, yblockK_same, yblockK_other, yloopK_nrm, yloopK_exit, yloopK_ret, f7, f8]
    rw [yw_ops rfl]
    simp (disch := first | omega | (simp only [fsLen]; omega)) only [↓fsPre, fsPost, fsCond, fsGen, fsDefs, cls, eqVal, vbGen, fill_bits, reduceCtorEq, Nat.reduceAdd, Nat.reduceMul, Nat.reduceSub, Nat.reduceLT, Nat.reduceLeDiff, Nat.reduceEqDiff, Nat.reduceBEq, Nat.reduceBNe, Int.reduceLT, Int.reduceLE, Int.reduceEq, Int.reduceNe, Int.reduceAdd, Int.reduceSub, Int.reduceNeg, Int.reduceToNat, Int.reduceMul, ↓reduceIte, Int.reduceGT, Int.reduceGE, yseqK_nrm, yseqK_exit, yseqK_ret, yw_seq, yw_cond, yw_skip, yw_exit, yw_ret, yw_block, yblockK_nrm, yblockK_ret, yblockK_same, yblockK_other, yloopK_nrm, yloopK_exit, yloopK_ret]
    rw [yw_draw]
    simp (disch := first | omega | (simp only [fsLen]; omega)) only [↓fsPre, fsPost, fsCond, fsGen, fsDefs, cls, eqVal, vbGen, fill_bits, reduceCtorEq, Nat.reduceAdd, Nat.reduceMul, Nat.reduceSub, Nat.reduceLT, Nat.reduceLeDiff, Nat.reduceEqDiff, Nat.reduceBEq, Nat.reduceBNe, Int.reduceLT, Int.reduceLE, Int.reduceEq, Int.reduceNe, Int.reduceAdd, Int.reduceSub, Int.reduceNeg, Int.reduceToNat, Int.reduceMul, ↓reduceIte, Int.reduceGT, Int.reduceGE, yseqK_nrm, yseqK_exit, yseqK_ret, yw_seq, yw_cond, yw_skip, yw_exit, yw_ret, yw_block, yblockK_nrm, yblockK_ret, yblockK_same, yblockK_other, yloopK_nrm, yloopK_exit, yloopK_ret, f2, f3, f8, k2, k3, k4, hd]
    refine callDT_one (bit_ok _ v ((bits : Int) - 1 - j) (by omega)) rfl ?_
    simp (disch := first | omega | (simp only [fsLen]; omega)) only [↓fsPre, fsPost, fsCond, fsGen, fsDefs, cls, eqVal, vbGen, fill_bits, reduceCtorEq, Nat.reduceAdd, Nat.reduceMul, Nat.reduceSub, Nat.reduceLT, Nat.reduceLeDiff, Nat.reduceEqDiff, Nat.reduceBEq, Nat.reduceBNe, Int.reduceLT, Int.reduceLE, Int.reduceEq, Int.reduceNe, Int.reduceAdd, Int.reduceSub, Int.reduceNeg, Int.reduceToNat, Int.reduceMul, ↓reduceIte, Int.reduceGT, Int.reduceGE, yseqK_nrm, yseqK_exit, yseqK_ret, yw_seq, yw_cond, yw_skip, yw_exit, yw_ret, yw_block, yblockK_nrm, yblockK_ret, yblockK_same, yblockK_other, yloopK_nrm, yloopK_exit, yloopK_ret, f2, f3, f8, k2, k3, k4, hd]
    have hbit : bitV v ((bits : Int) - 1 - j) = bitAt bits v j := by
      unfold bitV bitAt
      rw [show ((bits : Int) - 1 - j).toNat = bits - 1 - j by omega, decide_eq_true (by omega), Bool.true_and]
    rw [hbit]
    have hval : ∀ {x : Bool}, bitAt bits v j = x → (pathV bits n v)[j]? = some (bitNV x) := by
      rintro x rfl
      unfold pathV
      rw [List.getElem?_map, List.getElem?_range hj]; rfl
    refine condK_bool (fun hb => ?_) (fun hb => ?_)
    · rw [yw_ops rfl]
      simp (disch := first | omega | (simp only [fsLen]; omega)) only [↓fsPre, fsPost, fsCond, fsGen, fsDefs, cls, eqVal, vbGen, fill_bits, reduceCtorEq, Nat.reduceAdd, Nat.reduceMul, Nat.reduceSub, Nat.reduceLT, Nat.reduceLeDiff, Nat.reduceEqDiff, Nat.reduceBEq, Nat.reduceBNe, Int.reduceLT, Int.reduceLE, Int.reduceEq, Int.reduceNe, Int.reduceAdd, Int.reduceSub, Int.reduceNeg, Int.reduceToNat, Int.reduceMul, ↓reduceIte, Int.reduceGT, Int.reduceGE, yseqK_nrm, yseqK_exit, yseqK_ret, yw_seq, yw_cond, yw_skip, yw_exit, yw_ret, yw_block, yblockK_nrm, yblockK_ret, yblockK_same, yblockK_other, yloopK_nrm, yloopK_exit, yloopK_ret]
      rw [yw_yops rfl, yo_op rfl]
      simp (disch := first | omega | (simp only [fsLen]; omega)) only [↓fsPre, fsPost, fsCond, fsGen, fsDefs, cls, eqVal, vbGen, fill_bits, reduceCtorEq, Nat.reduceAdd, Nat.reduceMul, Nat.reduceSub, Nat.reduceLT, Nat.reduceLeDiff, Nat.reduceEqDiff, Nat.reduceBEq, Nat.reduceBNe, Int.reduceLT, Int.reduceLE, Int.reduceEq, Int.reduceNe, Int.reduceAdd, Int.reduceSub, Int.reduceNeg, Int.reduceToNat, Int.reduceMul, ↓reduceIte, Int.reduceGT, Int.reduceGE, yseqK_nrm, yseqK_exit, yseqK_ret, yw_seq, yw_cond, yw_skip, yw_exit, yw_ret, yw_block, yblockK_nrm, yblockK_ret, yblockK_same, yblockK_other, yloopK_nrm, yloopK_exit, yloopK_ret, f0]
      rw [yo_op rfl]
      simp (disch := first | omega | (simp only [fsLen]; omega)) only [↓fsPre, fsPost, fsCond, fsGen, fsDefs, cls, eqVal, vbGen, fill_bits, reduceCtorEq, Nat.reduceAdd, Nat.reduceMul, Nat.reduceSub, Nat.reduceLT, Nat.reduceLeDiff, Nat.reduceEqDiff, Nat.reduceBEq, Nat.reduceBNe, Int.reduceLT, Int.reduceLE, Int.reduceEq, Int.reduceNe, Int.reduceAdd, Int.reduceSub, Int.reduceNeg, Int.reduceToNat, Int.reduceMul, ↓reduceIte, Int.reduceGT, Int.reduceGE, yseqK_nrm, yseqK_exit, yseqK_ret, yw_seq, yw_cond, yw_skip, yw_exit, yw_ret, yw_block, yblockK_nrm, yblockK_ret, yblockK_same, yblockK_other, yloopK_nrm, yloopK_exit, yloopK_ret]
      refine yo_yield (by simp (disch := first | omega | (simp only [fsLen]; omega)) only [↓fsPre, fsPost, fsCond, fsGen, fsDefs, cls, eqVal, vbGen, fill_bits, reduceCtorEq, Nat.reduceAdd, Nat.reduceMul, Nat.reduceSub, Nat.reduceLT, Nat.reduceLeDiff, Nat.reduceEqDiff, Nat.reduceBEq, Nat.reduceBNe, Int.reduceLT, Int.reduceLE, Int.reduceEq, Int.reduceNe, Int.reduceAdd, Int.reduceSub, Int.reduceNeg, Int.reduceToNat, Int.reduceMul, ↓reduceIte, Int.reduceGT, Int.reduceGE, yseqK_nrm, yseqK_exit, yseqK_ret, yw_seq, yw_cond, yw_skip, yw_exit, yw_ret, yw_block, yblockK_nrm, yblockK_ret, yblockK_same, yblockK_other, yloopK_nrm, yloopK_exit, yloopK_ret]) (by simp (disch := first | omega | (simp only [fsLen]; omega)) only [↓fsPre, fsPost, fsCond, fsGen, fsDefs, cls, eqVal, vbGen, fill_bits, reduceCtorEq, Nat.reduceAdd, Nat.reduceMul, Nat.reduceSub, Nat.reduceLT, Nat.reduceLeDiff, Nat.reduceEqDiff, Nat.reduceBEq, Nat.reduceBNe, Int.reduceLT, Int.reduceLE, Int.reduceEq, Int.reduceNe, Int.reduceAdd, Int.reduceSub, Int.reduceNeg, Int.reduceToNat, Int.reduceMul, ↓reduceIte, Int.reduceGT, Int.reduceGE, yseqK_nrm, yseqK_exit, yseqK_ret, yw_seq, yw_cond, yw_skip, yw_exit, yw_ret, yw_block, yblockK_nrm, yblockK_ret, yblockK_same, yblockK_other, yloopK_nrm, yloopK_exit, yloopK_ret]; exact hval hb) (fun h' hk' => ?_) (fun h' => ?_)
      · rw [yo_op rfl]
        simp (disch := first | omega | (simp only [fsLen]; omega)) only [↓fsPre, fsPost, fsCond, fsGen, fsDefs, cls, eqVal, vbGen, fill_bits, reduceCtorEq, Nat.reduceAdd, Nat.reduceMul, Nat.reduceSub, Nat.reduceLT, Nat.reduceLeDiff, Nat.reduceEqDiff, Nat.reduceBEq, Nat.reduceBNe, Int.reduceLT, Int.reduceLE, Int.reduceEq, Int.reduceNe, Int.reduceAdd, Int.reduceSub, Int.reduceNeg, Int.reduceToNat, Int.reduceMul, ↓reduceIte, Int.reduceGT, Int.reduceGE, yseqK_nrm, yseqK_exit, yseqK_ret, yw_seq, yw_cond, yw_skip, yw_exit, yw_ret, yw_block, yblockK_nrm, yblockK_ret, yblockK_same, yblockK_other, yloopK_nrm, yloopK_exit, yloopK_ret, yo_nil]
        rw [yw_ops rfl]
        simp (disch := first | omega | (simp only [fsLen]; omega)) only [↓fsPre, fsPost, fsCond, fsGen, fsDefs, cls, eqVal, vbGen, fill_bits, reduceCtorEq, Nat.reduceAdd, Nat.reduceMul, Nat.reduceSub, Nat.reduceLT, Nat.reduceLeDiff, Nat.reduceEqDiff, Nat.reduceBEq, Nat.reduceBNe, Int.reduceLT, Int.reduceLE, Int.reduceEq, Int.reduceNe, Int.reduceAdd, Int.reduceSub, Int.reduceNeg, Int.reduceToNat, Int.reduceMul, ↓reduceIte, Int.reduceGT, Int.reduceGE, yseqK_nrm, yseqK_exit, yseqK_ret, yw_seq, yw_cond, yw_skip, yw_exit, yw_ret, yw_block, yblockK_nrm, yblockK_ret, yblockK_same, yblockK_other, yloopK_nrm, yloopK_exit, yloopK_ret, f0, f1, f2, f3, f7, f8]
        exact hk'
      · rw [yo_op rfl]
        simp (disch := first | omega | (simp only [fsLen]; omega)) only [↓fsPre, fsPost, fsCond, fsGen, fsDefs, cls, eqVal, vbGen, fill_bits, reduceCtorEq, Nat.reduceAdd, Nat.reduceMul, Nat.reduceSub, Nat.reduceLT, Nat.reduceLeDiff, Nat.reduceEqDiff, Nat.reduceBEq, Nat.reduceBNe, Int.reduceLT, Int.reduceLE, Int.reduceEq, Int.reduceNe, Int.reduceAdd, Int.reduceSub, Int.reduceNeg, Int.reduceToNat, Int.reduceMul, ↓reduceIte, Int.reduceGT, Int.reduceGE, yseqK_nrm, yseqK_exit, yseqK_ret, yw_seq, yw_cond, yw_skip, yw_exit, yw_ret, yw_block, yblockK_nrm, yblockK_ret, yblockK_same, yblockK_other, yloopK_nrm, yloopK_exit, yloopK_ret, yo_nil, yend]
    · simp (disch := first | omega | (simp only [fsLen]; omega)) only [↓fsPre, fsPost, fsCond, fsGen, fsDefs, cls, eqVal, vbGen, fill_bits, reduceCtorEq, Nat.reduceAdd, Nat.reduceMul, Nat.reduceSub, Nat.reduceLT, Nat.reduceLeDiff, Nat.reduceEqDiff, Nat.reduceBEq, Nat.reduceBNe, Int.reduceLT, Int.reduceLE, Int.reduceEq, Int.reduceNe, Int.reduceAdd, Int.reduceSub, Int.reduceNeg, Int.reduceToNat, Int.reduceMul, ↓reduceIte, Int.reduceGT, Int.reduceGE, yseqK_nrm, yseqK_exit, yseqK_ret, yw_seq, yw_cond, yw_skip, yw_exit, yw_ret, yw_block, yblockK_nrm, yblockK_ret, yblockK_same, yblockK_other, yloopK_nrm, yloopK_exit, yloopK_ret]
      rw [yw_yops rfl, yo_op rfl]
      simp (disch := first | omega | (simp only [fsLen]; omega)) only [↓fsPre, fsPost, fsCond, fsGen, fsDefs, cls, eqVal, vbGen, fill_bits, reduceCtorEq, Nat.reduceAdd, Nat.reduceMul, Nat.reduceSub, Nat.reduceLT, Nat.reduceLeDiff, Nat.reduceEqDiff, Nat.reduceBEq, Nat.reduceBNe, Int.reduceLT, Int.reduceLE, Int.reduceEq, Int.reduceNe, Int.reduceAdd, Int.reduceSub, Int.reduceNeg, Int.reduceToNat, Int.reduceMul, ↓reduceIte, Int.reduceGT, Int.reduceGE, yseqK_nrm, yseqK_exit, yseqK_ret, yw_seq, yw_cond, yw_skip, yw_exit, yw_ret, yw_block, yblockK_nrm, yblockK_ret, yblockK_same, yblockK_other, yloopK_nrm, yloopK_exit, yloopK_ret, f0]
      rw [yo_op rfl]
      simp (disch := first | omega | (simp only [fsLen]; omega)) only [↓fsPre, fsPost, fsCond, fsGen, fsDefs, cls, eqVal, vbGen, fill_bits, reduceCtorEq, Nat.reduceAdd, Nat.reduceMul, Nat.reduceSub, Nat.reduceLT, Nat.reduceLeDiff, Nat.reduceEqDiff, Nat.reduceBEq, Nat.reduceBNe, Int.reduceLT, Int.reduceLE, Int.reduceEq, Int.reduceNe, Int.reduceAdd, Int.reduceSub, Int.reduceNeg, Int.reduceToNat, Int.reduceMul, ↓reduceIte, Int.reduceGT, Int.reduceGE, yseqK_nrm, yseqK_exit, yseqK_ret, yw_seq, yw_cond, yw_skip, yw_exit, yw_ret, yw_block, yblockK_nrm, yblockK_ret, yblockK_same, yblockK_other, yloopK_nrm, yloopK_exit, yloopK_ret]
      refine yo_yield (by simp (disch := first | omega | (simp only [fsLen]; omega)) only [↓fsPre, fsPost, fsCond, fsGen, fsDefs, cls, eqVal, vbGen, fill_bits, reduceCtorEq, Nat.reduceAdd, Nat.reduceMul, Nat.reduceSub, Nat.reduceLT, Nat.reduceLeDiff, Nat.reduceEqDiff, Nat.reduceBEq, Nat.reduceBNe, Int.reduceLT, Int.reduceLE, Int.reduceEq, Int.reduceNe, Int.reduceAdd, Int.reduceSub, Int.reduceNeg, Int.reduceToNat, Int.reduceMul, ↓reduceIte, Int.reduceGT, Int.reduceGE, yseqK_nrm, yseqK_exit, yseqK_ret, yw_seq, yw_cond, yw_skip, yw_exit, yw_ret, yw_block, yblockK_nrm, yblockK_ret, yblockK_same, yblockK_other, yloopK_nrm, yloopK_exit, yloopK_ret]) (by simp (disch := first | omega | (simp only [fsLen]; omega)) only [↓fsPre, fsPost, fsCond, fsGen, fsDefs, cls, eqVal, vbGen, fill_bits, reduceCtorEq, Nat.reduceAdd, Nat.reduceMul, Nat.reduceSub, Nat.reduceLT, Nat.reduceLeDiff, Nat.reduceEqDiff, Nat.reduceBEq, Nat.reduceBNe, Int.reduceLT, Int.reduceLE, Int.reduceEq, Int.reduceNe, Int.reduceAdd, Int.reduceSub, Int.reduceNeg, Int.reduceToNat, Int.reduceMul, ↓reduceIte, Int.reduceGT, Int.reduceGE, yseqK_nrm, yseqK_exit, yseqK_ret, yw_seq, yw_cond, yw_skip, yw_exit, yw_ret, yw_block, yblockK_nrm, yblockK_ret, yblockK_same, yblockK_other, yloopK_nrm, yloopK_exit, yloopK_ret]; exact hval hb) (fun h' hk' => ?_) (fun h' => ?_)
      · rw [yo_op rfl]
        simp (disch := first | omega | (simp only [fsLen]; omega)) only [↓fsPre, fsPost, fsCond, fsGen, fsDefs, cls, eqVal, vbGen, fill_bits, reduceCtorEq, Nat.reduceAdd, Nat.reduceMul, Nat.reduceSub, Nat.reduceLT, Nat.reduceLeDiff, Nat.reduceEqDiff, Nat.reduceBEq, Nat.reduceBNe, Int.reduceLT, Int.reduceLE, Int.reduceEq, Int.reduceNe, Int.reduceAdd, Int.reduceSub, Int.reduceNeg, Int.reduceToNat, Int.reduceMul, ↓reduceIte, Int.reduceGT, Int.reduceGE, yseqK_nrm, yseqK_exit, yseqK_ret, yw_seq, yw_cond, yw_skip, yw_exit, yw_ret, yw_block, yblockK_nrm, yblockK_ret, yblockK_same, yblockK_other, yloopK_nrm, yloopK_exit, yloopK_ret, yo_nil]
        rw [yw_ops rfl]
        simp (disch := first | omega | (simp only [fsLen]; omega)) only [↓fsPre, fsPost, fsCond, fsGen, fsDefs, cls, eqVal, vbGen, fill_bits, reduceCtorEq, Nat.reduceAdd, Nat.reduceMul, Nat.reduceSub, Nat.reduceLT, Nat.reduceLeDiff, Nat.reduceEqDiff, Nat.reduceBEq, Nat.reduceBNe, Int.reduceLT, Int.reduceLE, Int.reduceEq, Int.reduceNe, Int.reduceAdd, Int.reduceSub, Int.reduceNeg, Int.reduceToNat, Int.reduceMul, ↓reduceIte, Int.reduceGT, Int.reduceGE, yseqK_nrm, yseqK_exit, yseqK_ret, yw_seq, yw_cond, yw_skip, yw_exit, yw_ret, yw_block, yblockK_nrm, yblockK_ret, yblockK_same, yblockK_other, yloopK_nrm, yloopK_exit, yloopK_ret, f0, f1, f2, f3, f7, f8]
        exact hk'
      · rw [yo_op rfl]
        simp (disch := first | omega | (simp only [fsLen]; omega)) only [↓fsPre, fsPost, fsCond, fsGen, fsDefs, cls, eqVal, vbGen, fill_bits, reduceCtorEq, Nat.reduceAdd, Nat.reduceMul, Nat.reduceSub, Nat.reduceLT, Nat.reduceLeDiff, Nat.reduceEqDiff, Nat.reduceBEq, Nat.reduceBNe, Int.reduceLT, Int.reduceLE, Int.reduceEq, Int.reduceNe, Int.reduceAdd, Int.reduceSub, Int.reduceNeg, Int.reduceToNat, Int.reduceMul, ↓reduceIte, Int.reduceGT, Int.reduceGE, yseqK_nrm, yseqK_exit, yseqK_ret, yw_seq, yw_cond, yw_skip, yw_exit, yw_ret, yw_block, yblockK_nrm, yblockK_ret, yblockK_same, yblockK_other, yloopK_nrm, yloopK_exit, yloopK_ret, yo_nil, yend]
  · rintro F h ⟨f0, f1, f2, f3, f7, f8, hk⟩
    have hd : decide ((n : Int) < (n : Int)) = false := by simp
    rw [yw_seq, yw_ops rfl]
    simp (disch := first | omega | (simp only [fsLen]; omega)) only [↓fsPre, fsPost, fsCond, fsGen, fsDefs, cls, eqVal, vbGen, fill_bits, reduceCtorEq, Nat.reduceAdd, Nat.reduceMul, Nat.reduceSub, Nat.reduceLT, Nat.reduceLeDiff, Nat.reduceEqDiff, Nat.reduceBEq, Nat.reduceBNe, Int.reduceLT, Int.reduceLE, Int.reduceEq, Int.reduceNe, Int.reduceAdd, Int.reduceSub, Int.reduceNeg, Int.reduceToNat, Int.reduceMul, ↓reduceIte, Int.reduceGT, Int.reduceGE, yseqK_nrm, yseqK_exit, yseqK_ret, yw_seq, yw_cond, yw_skip, yw_exit, yw_ret, yw_block, yblockK_nrm, yblockK_ret, yblockK_same, yblockK_other, yloopK_nrm, yloopK_exit, yloopK_ret, f7, f8, hd, yend]
    rw [pathV_length]

theorem path_ok (H : Heap) (q n : Nat) (v : BitVec 128) : NCall Try.prog 31 [.ptr (some (q, 0)), vnv v, .int .i64 n] H fun r =>
    r = (.func (.func 46) [] [.ptr (some (H.length + 2, 0)), .ptr (some (H.length + 1, 0)), .ptr (some (H.length, 0))], H ++ [some (.cells [.ptr (some (q, 0))] false), some (.cells [nb (hiOf v), nb (loOf v)] false), some (.cells [.int .i64 n] false)]) := by
  refine call_of E0 mixed t31_ok (by kernel_rfl) (by rintro q rfl; simp) ?_
  simp only [t31, vnv]
  simp (disch := first | omega | (simp only [fsLen]; omega)) only [↓fsPre, fsPost, fsCond, fsGen, fsDefs, cls, eqVal, vbGen, fill_bits, reduceCtorEq, Nat.reduceAdd, Nat.reduceMul, Nat.reduceSub, Nat.reduceLT, Nat.reduceLeDiff, Nat.reduceEqDiff, Nat.reduceBEq, Nat.reduceBNe, Int.reduceLT, Int.reduceLE, Int.reduceEq, Int.reduceNe, Int.reduceAdd, Int.reduceSub, Int.reduceNeg, Int.reduceToNat, Int.reduceMul, ↓reduceIte, Int.reduceGT, Int.reduceGE]

theorem eqc_pn {a : Nat × Nat} : eqCell .ptr (.ptr (some a)) (.ptr none) = some false := (rfl)
theorem eqc_nn : eqCell .ptr (.ptr none) (.ptr none) = some true := (rfl)
theorem tnew_ok (H : Heap) (n : Int) (hn : -9223372036854775808 ≤ n ∧ n ≤ 9223372036854775807) : NCall Try.prog 7 [.int .i64 n] H fun r => r = (.ptr (some (H.length, 0)), H ++ [some (.cells [.int .i64 ((min (max 1 n) 128).toNat : Nat), .ptr none] false)]) := by
  refine call_of E0 mixed t7_ok (by kernel_rfl) (by rintro q rfl; simp) ?_
  simp only [t7]
  simp (disch := first | omega | (simp only [fsLen]; omega)) only [↓fsPre, fsPost, fsCond, fsGen, fsDefs, cls, eqVal, vbGen, fill_bits, reduceCtorEq, Nat.reduceAdd, Nat.reduceMul, Nat.reduceSub, Nat.reduceLT, Nat.reduceLeDiff, Nat.reduceEqDiff, Nat.reduceBEq, Nat.reduceBNe, Int.reduceLT, Int.reduceLE, Int.reduceEq, Int.reduceNe, Int.reduceAdd, Int.reduceSub, Int.reduceNeg, Int.reduceToNat, Int.reduceMul, ↓reduceIte, Int.reduceGT, Int.reduceGE]
  have : (((min (max 1 n) 128).toNat : Nat) : Int) = min (max 1 n) 128 := by omega
  rw [this]
  have e : (if 128 < (if 1 < n then n else 1) then 128 else if 1 < n then n else 1) = min (max 1 n) 128 := by
    split <;> (try split at *) <;> omega
  rw [e]

/-- Is it a prefix? -/
def okP (bits : Nat) (v : BitVec 128) (n : Int) : Bool := decide (0 ≤ n) && (decide (n ≤ bits) && (v &&& leadV bits n == v))
theorem tprefix_nil (H : Heap) (v : BitVec 128) (n : Int) : NCall Try.prog 29 [.ptr none, vnv v, .int .i64 n] H fun r => r = (.bool false, H) := by
  refine call_pure E0 mixed t29_ok (by kernel_rfl) trivial ?_
  simp only [t29, vnv]
  simp (disch := first | omega | (simp only [fsLen]; omega)) only [↓fsPre, fsPost, fsCond, fsGen, fsDefs, cls, eqVal, vbGen, fill_bits, reduceCtorEq, Nat.reduceAdd, Nat.reduceMul, Nat.reduceSub, Nat.reduceLT, Nat.reduceLeDiff, Nat.reduceEqDiff, Nat.reduceBEq, Nat.reduceBNe, Int.reduceLT, Int.reduceLE, Int.reduceEq, Int.reduceNe, Int.reduceAdd, Int.reduceSub, Int.reduceNeg, Int.reduceToNat, Int.reduceMul, ↓reduceIte, Int.reduceGT, Int.reduceGE, eqc_nn]
  exact ⟨_, rfl⟩
theorem tprefix_ok (H : Heap) (q bits : Nat) (r : NV) (v : BitVec 128) (n : Int) (hq : hget H q = some (.cells [.int .i64 bits, r] false)) : NCall Try.prog 29 [.ptr (some (q, 0)), vnv v, .int .i64 n] H fun r => r = (.bool (okP bits v n), H) := by
  have lq := hget_some_lt hq
  refine call_pure E0 mixed t29_ok (by kernel_rfl) trivial ?_
  have hl := fun H a b => lead_ok H a b
  have ha := fun H a b => and_ok H a b
  simp only [t29, vnv] at hl ha ⊢
  unfold okP
  by_cases h1 : 0 ≤ n
  · have d1 : decide (n ≥ 0) = true := by simpa using h1
    have d1' : decide (0 ≤ n) = true := by simpa using h1
    by_cases h2 : n ≤ bits
    · have d2 : decide (n ≤ (bits : Int)) = true := by simpa using h2
      simp (disch := first | omega | (simp only [fsLen]; omega)) only [↓fsPre, fsPost, fsCond, fsGen, fsDefs, cls, eqVal, vbGen, fill_bits, reduceCtorEq, Nat.reduceAdd, Nat.reduceMul, Nat.reduceSub, Nat.reduceLT, Nat.reduceLeDiff, Nat.reduceEqDiff, Nat.reduceBEq, Nat.reduceBNe, Int.reduceLT, Int.reduceLE, Int.reduceEq, Int.reduceNe, Int.reduceAdd, Int.reduceSub, Int.reduceNeg, Int.reduceToNat, Int.reduceMul, ↓reduceIte, Int.reduceGT, Int.reduceGE, eqc_pn, d1, d1', d2, hq]
      refine callDT_one (hl _ _ _) rfl ?_
      simp (disch := first | omega | (simp only [fsLen]; omega)) only [↓fsPre, fsPost, fsCond, fsGen, fsDefs, cls, eqVal, vbGen, fill_bits, reduceCtorEq, Nat.reduceAdd, Nat.reduceMul, Nat.reduceSub, Nat.reduceLT, Nat.reduceLeDiff, Nat.reduceEqDiff, Nat.reduceBEq, Nat.reduceBNe, Int.reduceLT, Int.reduceLE, Int.reduceEq, Int.reduceNe, Int.reduceAdd, Int.reduceSub, Int.reduceNeg, Int.reduceToNat, Int.reduceMul, ↓reduceIte, Int.reduceGT, Int.reduceGE, eqc_pn, d1, d1', d2, hq]
      refine callDT_one (ha _ _ _) rfl ?_
      simp (disch := first | omega | (simp only [fsLen]; omega)) only [↓fsPre, fsPost, fsCond, fsGen, fsDefs, cls, eqVal, vbGen, fill_bits, reduceCtorEq, Nat.reduceAdd, Nat.reduceMul, Nat.reduceSub, Nat.reduceLT, Nat.reduceLeDiff, Nat.reduceEqDiff, Nat.reduceBEq, Nat.reduceBNe, Int.reduceLT, Int.reduceLE, Int.reduceEq, Int.reduceNe, Int.reduceAdd, Int.reduceSub, Int.reduceNeg, Int.reduceToNat, Int.reduceMul, ↓reduceIte, Int.reduceGT, Int.reduceGE, eqc_pn, d1, d1', d2, hq, words_eq]
      exact ⟨_, rfl⟩
    · have d2 : decide (n ≤ (bits : Int)) = false := by simpa using h2
      simp (disch := first | omega | (simp only [fsLen]; omega)) only [↓fsPre, fsPost, fsCond, fsGen, fsDefs, cls, eqVal, vbGen, fill_bits, reduceCtorEq, Nat.reduceAdd, Nat.reduceMul, Nat.reduceSub, Nat.reduceLT, Nat.reduceLeDiff, Nat.reduceEqDiff, Nat.reduceBEq, Nat.reduceBNe, Int.reduceLT, Int.reduceLE, Int.reduceEq, Int.reduceNe, Int.reduceAdd, Int.reduceSub, Int.reduceNeg, Int.reduceToNat, Int.reduceMul, ↓reduceIte, Int.reduceGT, Int.reduceGE, eqc_pn, d1, d1', d2, hq]
      exact ⟨_, rfl⟩
  · have d1 : decide (n ≥ 0) = false := by simpa using h1
    have d1' : decide (0 ≤ n) = false := by simpa using h1
    simp (disch := first | omega | (simp only [fsLen]; omega)) only [↓fsPre, fsPost, fsCond, fsGen, fsDefs, cls, eqVal, vbGen, fill_bits, reduceCtorEq, Nat.reduceAdd, Nat.reduceMul, Nat.reduceSub, Nat.reduceLT, Nat.reduceLeDiff, Nat.reduceEqDiff, Nat.reduceBEq, Nat.reduceBNe, Int.reduceLT, Int.reduceLE, Int.reduceEq, Int.reduceNe, Int.reduceAdd, Int.reduceSub, Int.reduceNeg, Int.reduceToNat, Int.reduceMul, ↓reduceIte, Int.reduceGT, Int.reduceGE, eqc_pn, d1, d1', hq]
    exact ⟨_, rfl⟩

/-- The bits of a path. -/
def pathB (bits n : Nat) (v : BitVec 128) : List Bool := (List.range n).map (bitAt bits v)
theorem pathB_length {bits n : Nat} {v : BitVec 128} : (pathB bits n v).length = n := by simp [pathB]
theorem pathV_get {bits n i : Nat} {v : BitVec 128} (h : i < (pathV bits n v).length) : (pathV bits n v)[i] = bitNV (bitAt bits v i) := by simp [pathV]
theorem pathB_take {bits n j : Nat} {v : BitVec 128} (h : j ≤ n) : (pathB bits n v).take j = pathB bits j v := by
  unfold pathB; rw [← List.map_take, List.take_range, Nat.min_eq_left h]
theorem pathB_succ {bits n : Nat} {v : BitVec 128} : pathB bits (n + 1) v = pathB bits n v ++ [bitAt bits v n] := by
  unfold pathB; rw [List.range_succ, List.map_append]; rfl
theorem TT.find_step {t : TT} {p : List Bool} {x : Bool} {b : Nat} {u : Bool} {i : Int} {l r : TT} (h : t.find p = .node b u i l r) : t.find (p ++ [x]) = if x then r else l := by
  rw [TT.find_append, h]; cases x <;> simp [TT.find, TT.find_empty]
theorem bit_cell {l r : TT} {u : NV} {i : NV} {x : Bool} : ([l.ptr, r.ptr, u, i] : List NV)[(if x then 1 else 0)]? = some (if x then r else l).ptr := by cases x <;> rfl
theorem bitNV_t : bitNV true = .int .i64 1 := rfl
theorem bitNV_f : bitNV false = .int .i64 0 := rfl

theorem tfind_ok (H : Heap) (q bits : Nat) (t : TT) (v : BitVec 128) (n : Int) (hb : bits ≤ 128) (ht : TrieAt H q bits t) :
    NCall Try.prog 30 [.ptr (some (q, 0)), vnv v, .int .i64 n] H fun r => r = (if okP bits v n = true then (t.find (pathB bits n.toNat v)).ptr else .ptr none, H) := by
  have lq := hget_some_lt ht.hd
  have hlo : ∀ s : TT, (∀ b ∈ s.bl, b < H.length) → s.ptr.lo H.length := by
    intro s hs
    cases s with
    | nil => trivial
    | node b u i l r => exact hs b (List.mem_cons_self ..)
  refine call_pure E0 mixed t30_ok (by kernel_rfl) (by split; exact hlo _ fun b hb => ht.at_.lt _ (TT.find_bl _ _ _ hb); trivial) ?_
  have hp := fun H r n hq => tprefix_ok H q bits r v n hq
  simp only [t30, vnv] at hp ⊢
  simp (disch := first | omega | (simp only [fsLen]; omega)) only [↓fsPre, fsPost, fsCond, fsGen, fsDefs, cls, eqVal, vbGen, fill_bits, reduceCtorEq, Nat.reduceAdd, Nat.reduceMul, Nat.reduceSub, Nat.reduceLT, Nat.reduceLeDiff, Nat.reduceEqDiff, Nat.reduceBEq, Nat.reduceBNe, Int.reduceLT, Int.reduceLE, Int.reduceEq, Int.reduceNe, Int.reduceAdd, Int.reduceSub, Int.reduceNeg, Int.reduceToNat, Int.reduceMul, ↓reduceIte, Int.reduceGT, Int.reduceGE]
  refine callT_one (hp _ t.ptr n (by rw [hget_appl lq]; exact ht.hd)) rfl ?_
  by_cases ho : okP bits v n = true
  · have h0 : 0 ≤ n := by
      unfold okP at ho
      simp only [Bool.and_eq_true, decide_eq_true_eq] at ho
      exact ho.1
    obtain ⟨m, rfl⟩ := Int.eq_ofNat_of_zero_le h0
    have hm : m ≤ bits := by
      unfold okP at ho
      simp only [Bool.and_eq_true, decide_eq_true_eq] at ho
      omega
    have hpa := fun H => path_ok H q m v
    simp only [vnv] at hpa
    rw [ho, if_pos rfl, Int.toNat_natCast]
    have hq := ht.hd
    simp (disch := first | omega | (simp only [fsLen]; omega)) only [↓fsPre, fsPost, fsCond, fsGen, fsDefs, cls, eqVal, vbGen, fill_bits, reduceCtorEq, Nat.reduceAdd, Nat.reduceMul, Nat.reduceSub, Nat.reduceLT, Nat.reduceLeDiff, Nat.reduceEqDiff, Nat.reduceBEq, Nat.reduceBNe, Int.reduceLT, Int.reduceLE, Int.reduceEq, Int.reduceNe, Int.reduceAdd, Int.reduceSub, Int.reduceNeg, Int.reduceToNat, Int.reduceMul, ↓reduceIte, Int.reduceGT, Int.reduceGE, hq, TT.ptr_flat, TT.ptr_one, TT.ptr_cells]
    refine callT_one (hpa _) rfl ?_
    simp (disch := first | omega | (simp only [fsLen]; omega)) only [↓fsPre, fsPost, fsCond, fsGen, fsDefs, cls, eqVal, vbGen, fill_bits, reduceCtorEq, Nat.reduceAdd, Nat.reduceMul, Nat.reduceSub, Nat.reduceLT, Nat.reduceLeDiff, Nat.reduceEqDiff, Nat.reduceBEq, Nat.reduceBNe, Int.reduceLT, Int.reduceLE, Int.reduceEq, Int.reduceNe, Int.reduceAdd, Int.reduceSub, Int.reduceNeg, Int.reduceToNat, Int.reduceMul, ↓reduceIte, Int.reduceGT, Int.reduceGE]
    refine wrange (fun i h => h = H ++ [some (.cells [nb (hiOf v), nb (loOf v)] false), some (.cells [.ptr none] false), some (.cells [(t.find (pathB bits i v)).ptr] false), some (.cells [.ptr (some (q, 0))] false), some (.cells [nb (hiOf v), nb (loOf v)] false), some (.cells [.int .i64 m] false)]) ?_ (t46_ok).1 (iter_path (H.length + 5) (H.length + 4) (H.length + 3) q bits m v hb hm) ?_ ?_ ?_ ?_
    · simp (disch := first | omega | (simp only [fsLen]; omega)) only [↓fsPre, fsPost, fsCond, fsGen, fsDefs, cls, eqVal, vbGen, fill_bits, reduceCtorEq, Nat.reduceAdd, Nat.reduceMul, Nat.reduceSub, Nat.reduceLT, Nat.reduceLeDiff, Nat.reduceEqDiff, Nat.reduceBEq, Nat.reduceBNe, Int.reduceLT, Int.reduceLE, Int.reduceEq, Int.reduceNe, Int.reduceAdd, Int.reduceSub, Int.reduceNeg, Int.reduceToNat, Int.reduceMul, ↓reduceIte, Int.reduceGT, Int.reduceGE]
    · simp (disch := first | omega | (simp only [fsLen]; omega)) only [↓fsPre, fsPost, fsCond, fsGen, fsDefs, cls, eqVal, vbGen, fill_bits, reduceCtorEq, Nat.reduceAdd, Nat.reduceMul, Nat.reduceSub, Nat.reduceLT, Nat.reduceLeDiff, Nat.reduceEqDiff, Nat.reduceBEq, Nat.reduceBNe, Int.reduceLT, Int.reduceLE, Int.reduceEq, Int.reduceNe, Int.reduceAdd, Int.reduceSub, Int.reduceNeg, Int.reduceToNat, Int.reduceMul, ↓reduceIte, Int.reduceGT, Int.reduceGE]
      rw [show pathB bits 0 v = [] from rfl, TT.find_empty]
    · rintro i h hi rfl
      refine ⟨?_, ?_, ?_, ?_⟩
      · simp (disch := first | omega | (simp only [fsLen]; omega)) only [↓fsPre, fsPost, fsCond, fsGen, fsDefs, cls, eqVal, vbGen, fill_bits, reduceCtorEq, Nat.reduceAdd, Nat.reduceMul, Nat.reduceSub, Nat.reduceLT, Nat.reduceLeDiff, Nat.reduceEqDiff, Nat.reduceBEq, Nat.reduceBNe, Int.reduceLT, Int.reduceLE, Int.reduceEq, Int.reduceNe, Int.reduceAdd, Int.reduceSub, Int.reduceNeg, Int.reduceToNat, Int.reduceMul, ↓reduceIte, Int.reduceGT, Int.reduceGE]
      · simp (disch := first | omega | (simp only [fsLen]; omega)) only [↓fsPre, fsPost, fsCond, fsGen, fsDefs, cls, eqVal, vbGen, fill_bits, reduceCtorEq, Nat.reduceAdd, Nat.reduceMul, Nat.reduceSub, Nat.reduceLT, Nat.reduceLeDiff, Nat.reduceEqDiff, Nat.reduceBEq, Nat.reduceBNe, Int.reduceLT, Int.reduceLE, Int.reduceEq, Int.reduceNe, Int.reduceAdd, Int.reduceSub, Int.reduceNeg, Int.reduceToNat, Int.reduceMul, ↓reduceIte, Int.reduceGT, Int.reduceGE]
      · simp (disch := first | omega | (simp only [fsLen]; omega)) only [↓fsPre, fsPost, fsCond, fsGen, fsDefs, cls, eqVal, vbGen, fill_bits, reduceCtorEq, Nat.reduceAdd, Nat.reduceMul, Nat.reduceSub, Nat.reduceLT, Nat.reduceLeDiff, Nat.reduceEqDiff, Nat.reduceBEq, Nat.reduceBNe, Int.reduceLT, Int.reduceLE, Int.reduceEq, Int.reduceNe, Int.reduceAdd, Int.reduceSub, Int.reduceNeg, Int.reduceToNat, Int.reduceMul, ↓reduceIte, Int.reduceGT, Int.reduceGE]
      · exact ⟨_, by rw [hget_appl lq]; exact hq⟩
    · rintro i h hi rfl
      rw [pathV_get hi]
      rw [pathV_length] at hi
      have hst := pathB_succ (bits := bits) (n := i) (v := v)
      have hat := ht.at_.find (pathB bits i v)
      have hlb := fun b hb => ht.at_.lt b (TT.find_bl (pathB bits i v) t b hb)
      cases hf : t.find (pathB bits i v) with
      | nil =>
        have hall : t.find (pathB bits m v) = .nil := by
          rw [show pathB bits m v = pathB bits i v ++ (pathB bits m v).drop i by
            conv => lhs; rw [← List.take_append_drop i (pathB bits m v), pathB_take (by omega)]]
          rw [TT.find_append, hf, TT.find_nil]
        simp (disch := first | omega | (simp only [fsLen]; omega)) only [↓fsPre, fsPost, fsCond, fsGen, fsDefs, cls, eqVal, vbGen, fill_bits, reduceCtorEq, Nat.reduceAdd, Nat.reduceMul, Nat.reduceSub, Nat.reduceLT, Nat.reduceLeDiff, Nat.reduceEqDiff, Nat.reduceBEq, Nat.reduceBNe, Int.reduceLT, Int.reduceLE, Int.reduceEq, Int.reduceNe, Int.reduceAdd, Int.reduceSub, Int.reduceNeg, Int.reduceToNat, Int.reduceMul, ↓reduceIte, Int.reduceGT, Int.reduceGE, rngA_nrm, rngB_nrm, rngB_exit, rngB_ret, hf, ptr_nl, ptr_nd, eqc_nn]
        rw [hall]
        exact ⟨rfl, _, rfl⟩
      | node b u j l r =>
        rw [hf] at hat hlb
        have hb := hat.1
        have hbl := hget_some_lt hb
        cases hx : bitAt bits v i with
        | false =>
          rw [hx] at hst
          have hf2 : t.find (pathB bits (i + 1) v) = l := by rw [hst, TT.find_step hf]; rfl
          simp (disch := first | omega | (simp only [fsLen]; omega)) only [↓fsPre, fsPost, fsCond, fsGen, fsDefs, cls, eqVal, vbGen, fill_bits, reduceCtorEq, Nat.reduceAdd, Nat.reduceMul, Nat.reduceSub, Nat.reduceLT, Nat.reduceLeDiff, Nat.reduceEqDiff, Nat.reduceBEq, Nat.reduceBNe, Int.reduceLT, Int.reduceLE, Int.reduceEq, Int.reduceNe, Int.reduceAdd, Int.reduceSub, Int.reduceNeg, Int.reduceToNat, Int.reduceMul, ↓reduceIte, Int.reduceGT, Int.reduceGE, rngA_nrm, rngB_nrm, rngB_exit, rngB_ret, hf, ptr_nl, ptr_nd, eqc_pn, bitNV_f, hb, TT.ptr_flat, TT.ptr_one, TT.ptr_cells]
          rw [hf2]
        | true =>
          rw [hx] at hst
          have hf2 : t.find (pathB bits (i + 1) v) = r := by rw [hst, TT.find_step hf]; rfl
          simp (disch := first | omega | (simp only [fsLen]; omega)) only [↓fsPre, fsPost, fsCond, fsGen, fsDefs, cls, eqVal, vbGen, fill_bits, reduceCtorEq, Nat.reduceAdd, Nat.reduceMul, Nat.reduceSub, Nat.reduceLT, Nat.reduceLeDiff, Nat.reduceEqDiff, Nat.reduceBEq, Nat.reduceBNe, Int.reduceLT, Int.reduceLE, Int.reduceEq, Int.reduceNe, Int.reduceAdd, Int.reduceSub, Int.reduceNeg, Int.reduceToNat, Int.reduceMul, ↓reduceIte, Int.reduceGT, Int.reduceGE, rngA_nrm, rngB_nrm, rngB_exit, rngB_ret, hf, ptr_nl, ptr_nd, eqc_pn, bitNV_t, hb, TT.ptr_flat, TT.ptr_one, TT.ptr_cells]
          rw [hf2]
    · rintro h rfl
      simp (disch := first | omega | (simp only [fsLen]; omega)) only [↓fsPre, fsPost, fsCond, fsGen, fsDefs, cls, eqVal, vbGen, fill_bits, reduceCtorEq, Nat.reduceAdd, Nat.reduceMul, Nat.reduceSub, Nat.reduceLT, Nat.reduceLeDiff, Nat.reduceEqDiff, Nat.reduceBEq, Nat.reduceBNe, Int.reduceLT, Int.reduceLE, Int.reduceEq, Int.reduceNe, Int.reduceAdd, Int.reduceSub, Int.reduceNeg, Int.reduceToNat, Int.reduceMul, ↓reduceIte, Int.reduceGT, Int.reduceGE, TT.ptr_flat, TT.ptr_one, TT.ptr_cells, pathV_length]
      exact ⟨_, rfl⟩
  · have ho : okP bits v n = false := by simpa using ho
    rw [ho]
    simp (disch := first | omega | (simp only [fsLen]; omega)) only [↓fsPre, fsPost, fsCond, fsGen, fsDefs, cls, eqVal, vbGen, fill_bits, reduceCtorEq, Nat.reduceAdd, Nat.reduceMul, Nat.reduceSub, Nat.reduceLT, Nat.reduceLeDiff, Nat.reduceEqDiff, Nat.reduceBEq, Nat.reduceBNe, Int.reduceLT, Int.reduceLE, Int.reduceEq, Int.reduceNe, Int.reduceAdd, Int.reduceSub, Int.reduceNeg, Int.reduceToNat, Int.reduceMul, ↓reduceIte, Int.reduceGT, Int.reduceGE]
    exact ⟨_, rfl⟩

/-- What a trie says of a prefix. -/
def getP (bits : Nat) (t : T) (v : BitVec 128) (n : Int) : Option Int := if okP bits v n = true then t.get (pathB bits n.toNat v) else none
theorem tget_ok (H : Heap) (q bits : Nat) (t : TT) (v : BitVec 128) (n : Int) (hb : bits ≤ 128) (ht : TrieAt H q bits t) :
    NCall Try.prog 19 [.ptr (some (q, 0)), vnv v, .int .i64 n] H fun r => r = (.tup [.int .i64 ((getP bits t.er v n).getD 0), .bool (getP bits t.er v n).isSome], H) := by
  refine call_pure E0 mixed t19_ok (by kernel_rfl) ⟨trivial, trivial, trivial⟩ ?_
  have hp := fun H ht => tfind_ok H q bits t v n hb ht
  simp only [t19, vnv] at hp ⊢
  simp (disch := first | omega | (simp only [fsLen]; omega)) only [↓fsPre, fsPost, fsCond, fsGen, fsDefs, cls, eqVal, vbGen, fill_bits, reduceCtorEq, Nat.reduceAdd, Nat.reduceMul, Nat.reduceSub, Nat.reduceLT, Nat.reduceLeDiff, Nat.reduceEqDiff, Nat.reduceBEq, Nat.reduceBNe, Int.reduceLT, Int.reduceLE, Int.reduceEq, Int.reduceNe, Int.reduceAdd, Int.reduceSub, Int.reduceNeg, Int.reduceToNat, Int.reduceMul, ↓reduceIte, Int.reduceGT, Int.reduceGE]
  refine callT_one (hp _ (ht.app _)) rfl ?_
  unfold getP
  by_cases ho : okP bits v n = true
  · rw [if_pos ho, if_pos ho]
    have hat := ht.at_.find (pathB bits n.toNat v)
    have hg : t.er.get (pathB bits n.toNat v) = (t.find (pathB bits n.toNat v)).er.get [] := by rw [TT.er_find, T.get_find, List.append_nil]
    rw [hg]
    cases hf : t.find (pathB bits n.toNat v) with
    | nil =>
      simp (disch := first | omega | (simp only [fsLen]; omega)) only [↓fsPre, fsPost, fsCond, fsGen, fsDefs, cls, eqVal, vbGen, fill_bits, reduceCtorEq, Nat.reduceAdd, Nat.reduceMul, Nat.reduceSub, Nat.reduceLT, Nat.reduceLeDiff, Nat.reduceEqDiff, Nat.reduceBEq, Nat.reduceBNe, Int.reduceLT, Int.reduceLE, Int.reduceEq, Int.reduceNe, Int.reduceAdd, Int.reduceSub, Int.reduceNeg, Int.reduceToNat, Int.reduceMul, ↓reduceIte, Int.reduceGT, Int.reduceGE, ptr_nl, ptr_nd, eqc_nn, TT.er, T.get]
      exact ⟨rfl, _, rfl⟩
    | node b u j l r =>
      rw [hf] at hat
      have hb := hat.1
      have hbl := hget_some_lt hb
      cases u with
      | false =>
        simp (disch := first | omega | (simp only [fsLen]; omega)) only [↓fsPre, fsPost, fsCond, fsGen, fsDefs, cls, eqVal, vbGen, fill_bits, reduceCtorEq, Nat.reduceAdd, Nat.reduceMul, Nat.reduceSub, Nat.reduceLT, Nat.reduceLeDiff, Nat.reduceEqDiff, Nat.reduceBEq, Nat.reduceBNe, Int.reduceLT, Int.reduceLE, Int.reduceEq, Int.reduceNe, Int.reduceAdd, Int.reduceSub, Int.reduceNeg, Int.reduceToNat, Int.reduceMul, ↓reduceIte, Int.reduceGT, Int.reduceGE, ptr_nl, ptr_nd, eqc_pn, TT.er, T.get, hb]
        exact ⟨rfl, _, rfl⟩
      | true =>
        simp (disch := first | omega | (simp only [fsLen]; omega)) only [↓fsPre, fsPost, fsCond, fsGen, fsDefs, cls, eqVal, vbGen, fill_bits, reduceCtorEq, Nat.reduceAdd, Nat.reduceMul, Nat.reduceSub, Nat.reduceLT, Nat.reduceLeDiff, Nat.reduceEqDiff, Nat.reduceBEq, Nat.reduceBNe, Int.reduceLT, Int.reduceLE, Int.reduceEq, Int.reduceNe, Int.reduceAdd, Int.reduceSub, Int.reduceNeg, Int.reduceToNat, Int.reduceMul, ↓reduceIte, Int.reduceGT, Int.reduceGE, ptr_nl, ptr_nd, eqc_pn, TT.er, T.get, hb]
        exact ⟨rfl, _, rfl⟩
  · rw [if_neg ho, if_neg ho]
    simp (disch := first | omega | (simp only [fsLen]; omega)) only [↓fsPre, fsPost, fsCond, fsGen, fsDefs, cls, eqVal, vbGen, fill_bits, reduceCtorEq, Nat.reduceAdd, Nat.reduceMul, Nat.reduceSub, Nat.reduceLT, Nat.reduceLeDiff, Nat.reduceEqDiff, Nat.reduceBEq, Nat.reduceBNe, Int.reduceLT, Int.reduceLE, Int.reduceEq, Int.reduceNe, Int.reduceAdd, Int.reduceSub, Int.reduceNeg, Int.reduceToNat, Int.reduceMul, ↓reduceIte, Int.reduceGT, Int.reduceGE, eqc_nn]
    exact ⟨rfl, _, rfl⟩

theorem okP_nat {bits : Nat} {v : BitVec 128} {n : Int} (ho : okP bits v n = true) : ∃ m : Nat, n = m ∧ m ≤ bits := by
  unfold okP at ho
  simp only [Bool.and_eq_true, decide_eq_true_eq] at ho
  exact ⟨n.toNat, by omega, by omega⟩
theorem tput_not (H : Heap) (q bits : Nat) (t : TT) (v : BitVec 128) (n i : Int) (hb : bits ≤ 128) (ht : TrieAt H q bits t) (hn : okP bits v n = false ∨ (getP bits t.er v n).isSome = true) :
    NCall Try.prog 10 [.ptr (some (q, 0)), vnv v, .int .i64 n, .int .i64 i] H fun r => r = (.bool false, H) := by
  have lq := hget_some_lt ht.hd
  refine call_pure E0 mixed t10_ok (by kernel_rfl) trivial ?_
  have hp := fun H r n hq => tprefix_ok H q bits r v n hq
  have hf := fun H ht => tfind_ok H q bits t v n hb ht
  simp only [t10, vnv] at hp hf ⊢
  simp (disch := first | omega | (simp only [fsLen]; omega)) only [↓fsPre, fsPost, fsCond, fsGen, fsDefs, cls, eqVal, vbGen, fill_bits, reduceCtorEq, Nat.reduceAdd, Nat.reduceMul, Nat.reduceSub, Nat.reduceLT, Nat.reduceLeDiff, Nat.reduceEqDiff, Nat.reduceBEq, Nat.reduceBNe, Int.reduceLT, Int.reduceLE, Int.reduceEq, Int.reduceNe, Int.reduceAdd, Int.reduceSub, Int.reduceNeg, Int.reduceToNat, Int.reduceMul, ↓reduceIte, Int.reduceGT, Int.reduceGE]
  refine callT_one (hp _ t.ptr n (by rw [hget_appl lq]; exact ht.hd)) rfl ?_
  by_cases ho : okP bits v n = true
  · rw [ho]
    simp (disch := first | omega | (simp only [fsLen]; omega)) only [↓fsPre, fsPost, fsCond, fsGen, fsDefs, cls, eqVal, vbGen, fill_bits, reduceCtorEq, Nat.reduceAdd, Nat.reduceMul, Nat.reduceSub, Nat.reduceLT, Nat.reduceLeDiff, Nat.reduceEqDiff, Nat.reduceBEq, Nat.reduceBNe, Int.reduceLT, Int.reduceLE, Int.reduceEq, Int.reduceNe, Int.reduceAdd, Int.reduceSub, Int.reduceNeg, Int.reduceToNat, Int.reduceMul, ↓reduceIte, Int.reduceGT, Int.reduceGE]
    refine callT_one (hf _ (ht.app _)) rfl ?_
    rw [if_pos ho]
    have hs : (getP bits t.er v n).isSome = true := by
      rcases hn with h | h
      · rw [ho] at h; cases h
      · exact h
    unfold getP at hs
    rw [if_pos ho] at hs
    have hat := ht.at_.find (pathB bits n.toNat v)
    have hg : t.er.get (pathB bits n.toNat v) = (t.find (pathB bits n.toNat v)).er.get [] := by rw [TT.er_find, T.get_find, List.append_nil]
    rw [hg] at hs
    cases hf : t.find (pathB bits n.toNat v) with
    | nil => rw [hf] at hs; simp [TT.er, T.get] at hs
    | node b u j l r =>
      rw [hf] at hat hs
      have hb := hat.1
      have hbl := hget_some_lt hb
      cases u with
      | false => simp [TT.er, T.get] at hs
      | true =>
        simp (disch := first | omega | (simp only [fsLen]; omega)) only [↓fsPre, fsPost, fsCond, fsGen, fsDefs, cls, eqVal, vbGen, fill_bits, reduceCtorEq, Nat.reduceAdd, Nat.reduceMul, Nat.reduceSub, Nat.reduceLT, Nat.reduceLeDiff, Nat.reduceEqDiff, Nat.reduceBEq, Nat.reduceBNe, Int.reduceLT, Int.reduceLE, Int.reduceEq, Int.reduceNe, Int.reduceAdd, Int.reduceSub, Int.reduceNeg, Int.reduceToNat, Int.reduceMul, ↓reduceIte, Int.reduceGT, Int.reduceGE, ptr_nl, ptr_nd, eqc_pn, hb]
        exact ⟨_, rfl⟩
  · have ho : okP bits v n = false := by simpa using ho
    rw [ho]
    simp (disch := first | omega | (simp only [fsLen]; omega)) only [↓fsPre, fsPost, fsCond, fsGen, fsDefs, cls, eqVal, vbGen, fill_bits, reduceCtorEq, Nat.reduceAdd, Nat.reduceMul, Nat.reduceSub, Nat.reduceLT, Nat.reduceLeDiff, Nat.reduceEqDiff, Nat.reduceBEq, Nat.reduceBNe, Int.reduceLT, Int.reduceLE, Int.reduceEq, Int.reduceNe, Int.reduceAdd, Int.reduceSub, Int.reduceNeg, Int.reduceToNat, Int.reduceMul, ↓reduceIte, Int.reduceGT, Int.reduceGE]
    exact ⟨_, rfl⟩

def putA : NCode := t10.body.a1
def putB : NCode := t10.body.a2.a1
def putC : NCode := t10.body.a2.a2.a1
def putD : NCode := t10.body.a2.a2.a2.a1
def putE : NCode := t10.body.a2.a2.a2.a2.a1
def putF : NCode := t10.body.a2.a2.a2.a2.a2.a1
def putG : NCode := t10.body.a2.a2.a2.a2.a2.a2.a1
def putH : NCode := t10.body.a2.a2.a2.a2.a2.a2.a2
theorem put_body : t10.body = .seq putA (.seq putB (.seq putC (.seq putD (.seq putE (.seq putF (.seq putG putH)))))) := rfl
theorem put_res : t10.res = [.tmp 8] := rfl
/-- The frame of Put behind its tests. -/
def PutF (q m : Nat) (i : Int) (a : Nat) (F : FF) : Prop := F 0 = .ptr (some (q, 0)) ∧ F 2 = .int .i64 m ∧ F 3 = .int .i64 i ∧ F 5 = .ptr (some (a, 0))

theorem put_round {H g g' : Heap} {q bits m a b j : Nat} {v : BitVec 128} {t tt : TT} {u x : Bool} {c : Int} {l r : TT} (hk : KeepP (a + 3) (a + 2) (a + 1) q bits m v g) (I : PutI H q bits t (pathB bits j v) g tt) (hf : tt.find (pathB bits j v) = .node b u c l r)
    (hx : bitAt bits v j = x) (hc : (if x then r else l) = .nil) (ha : hget g a = some (.cells [.ptr (some (b, 0))] false)) (hle : H.length ≤ a) (lq : q < H.length)
    (e1 : hget g' g.length = some (.cells [.ptr none, .ptr none, .bool false, .int .i64 0] false))
    (e2 : hget g' b = some (.cells [(if x then l.ptr else .ptr (some (g.length, 0))), (if x then .ptr (some (g.length, 0)) else r.ptr), .bool u, .int .i64 c] false))
    (e3 : ∀ d, d < g.length → d ≠ b → d ≠ a → hget g' d = hget g d) (hl : g.length < g'.length) :
    KeepP (a + 3) (a + 2) (a + 1) q bits m v g' ∧ ∃ tt', PutI H q bits t (pathB bits (j + 1) v) g' tt' ∧ (tt'.find (pathB bits (j + 1) v)).ptr = .ptr (some (g.length, 0)) := by
  obtain ⟨k1, k2, k3, kr, k4⟩ := hk
  have na := I.tr.at_.not_mem ha (by simp)
  have hb := I.tr.at_.find (pathB bits j v)
  rw [hf] at hb
  have hb := hb.1
  have l1 := hget_some_lt k1
  have l2 := hget_some_lt k2
  have l3 := hget_some_lt k3
  have ne : ∀ {d : Nat} {cs : List NV} {ro : Bool}, hget g d = some (.cells cs ro) → cs.length ≠ 4 → d ≠ b := by
    rintro d cs ro h1 h2 rfl
    rw [hb] at h1
    cases h1
    exact h2 rfl
  obtain ⟨tt', I', h'⟩ := I.kid (x := x) hf hc hle na lq e1 e2 e3 hl
  rw [pathB_succ, hx]
  exact ⟨⟨by rw [e3 _ l1 (ne k1 (by simp)) (by omega)]; exact k1, by rw [e3 _ l2 (ne k2 (by simp)) (by omega)]; exact k2, by rw [e3 _ l3 (ne k3 (by simp)) (by omega)]; exact k3, ⟨_, I'.tr.hd⟩⟩, tt', I', h'⟩

set_option maxHeartbeats 1000000 in
theorem tput_new (H : Heap) (q bits : Nat) (t : TT) (v : BitVec 128) (n i : Int) (hb : bits ≤ 128) (ht : TrieAt H q bits t) (ho : okP bits v n = true) (hg : getP bits t.er v n = none) :
    DCall Try.prog 10 [.ptr (some (q, 0)), vnv v, .int .i64 n, .int .i64 i] H fun r => r.1 = .bool true ∧ ∃ t', PutQ H q bits t (t.er.put (pathB bits n.toNat v) i) r.2 t' := by
  have lq := hget_some_lt ht.hd
  refine call_det E0 rfl mixed t10_ok (by kernel_rfl) (by rintro q ⟨_, t', h⟩; exact h.len) ?_
  obtain ⟨m, rfl, hm⟩ := okP_nat ho
  have hp := fun H r n hq => tprefix_ok H q bits r v n hq
  have hf := fun H ht => tfind_ok H q bits t v m hb ht
  have hpa := fun H => path_ok H q m v
  rw [put_body, put_res]
  simp only [vnv] at hp hf hpa ⊢
  have hq := ht.hd
  simp (disch := first | omega | (simp only [fsLen]; omega)) only [↓fsPre, fsPost, fsCond, fsGen, fsDefs, cls, eqVal, vbGen, fill_bits, reduceCtorEq, Nat.reduceAdd, Nat.reduceMul, Nat.reduceSub, Nat.reduceLT, Nat.reduceLeDiff, Nat.reduceEqDiff, Nat.reduceBEq, Nat.reduceBNe, Int.reduceLT, Int.reduceLE, Int.reduceEq, Int.reduceNe, Int.reduceAdd, Int.reduceSub, Int.reduceNeg, Int.reduceToNat, Int.reduceMul, ↓reduceIte, Int.reduceGT, Int.reduceGE]
  simp only [putA, t10, NCode.a1, NCode.a2]
  simp (disch := first | omega | (simp only [fsLen]; omega)) only [↓fsPre, fsPost, fsCond, fsGen, fsDefs, cls, eqVal, vbGen, fill_bits, reduceCtorEq, Nat.reduceAdd, Nat.reduceMul, Nat.reduceSub, Nat.reduceLT, Nat.reduceLeDiff, Nat.reduceEqDiff, Nat.reduceBEq, Nat.reduceBNe, Int.reduceLT, Int.reduceLE, Int.reduceEq, Int.reduceNe, Int.reduceAdd, Int.reduceSub, Int.reduceNeg, Int.reduceToNat, Int.reduceMul, ↓reduceIte, Int.reduceGT, Int.reduceGE]
  simp only [putB, t10, NCode.a1, NCode.a2]
  simp (disch := first | omega | (simp only [fsLen]; omega)) only [↓fsPre, fsPost, fsCond, fsGen, fsDefs, cls, eqVal, vbGen, fill_bits, reduceCtorEq, Nat.reduceAdd, Nat.reduceMul, Nat.reduceSub, Nat.reduceLT, Nat.reduceLeDiff, Nat.reduceEqDiff, Nat.reduceBEq, Nat.reduceBNe, Int.reduceLT, Int.reduceLE, Int.reduceEq, Int.reduceNe, Int.reduceAdd, Int.reduceSub, Int.reduceNeg, Int.reduceToNat, Int.reduceMul, ↓reduceIte, Int.reduceGT, Int.reduceGE]
  refine callT_one (hp _ t.ptr m (by rw [hget_appl lq]; exact ht.hd)) rfl ?_
  rw [ho]
  simp (disch := first | omega | (simp only [fsLen]; omega)) only [↓fsPre, fsPost, fsCond, fsGen, fsDefs, cls, eqVal, vbGen, fill_bits, reduceCtorEq, Nat.reduceAdd, Nat.reduceMul, Nat.reduceSub, Nat.reduceLT, Nat.reduceLeDiff, Nat.reduceEqDiff, Nat.reduceBEq, Nat.reduceBNe, Int.reduceLT, Int.reduceLE, Int.reduceEq, Int.reduceNe, Int.reduceAdd, Int.reduceSub, Int.reduceNeg, Int.reduceToNat, Int.reduceMul, ↓reduceIte, Int.reduceGT, Int.reduceGE]
  refine fwp_cutJ (fun F h => PutF q m i H.length F ∧ h = H ++ [some (.cells [nb (hiOf v), nb (loOf v)] false)]) ?_ ?_
  · simp only [putC, t10, NCode.a1, NCode.a2]
    simp (disch := first | omega | (simp only [fsLen]; omega)) only [↓fsPre, fsPost, fsCond, fsGen, fsDefs, cls, eqVal, vbGen, fill_bits, reduceCtorEq, Nat.reduceAdd, Nat.reduceMul, Nat.reduceSub, Nat.reduceLT, Nat.reduceLeDiff, Nat.reduceEqDiff, Nat.reduceBEq, Nat.reduceBNe, Int.reduceLT, Int.reduceLE, Int.reduceEq, Int.reduceNe, Int.reduceAdd, Int.reduceSub, Int.reduceNeg, Int.reduceToNat, Int.reduceMul, ↓reduceIte, Int.reduceGT, Int.reduceGE]
    refine callT_one (hf _ (ht.app _)) rfl ?_
    rw [if_pos ho]
    unfold getP at hg
    rw [if_pos ho, Int.toNat_natCast] at hg
    rw [Int.toNat_natCast]
    have hat := ht.at_.find (pathB bits m v)
    have hg2 : (t.find (pathB bits m v)).er.get [] = none := by rw [TT.er_find, T.get_find, List.append_nil]; exact hg
    cases hf : t.find (pathB bits m v) with
    | nil =>
      simp (disch := first | omega | (simp only [fsLen]; omega)) only [↓fsPre, fsPost, fsCond, fsGen, fsDefs, cls, eqVal, vbGen, fill_bits, reduceCtorEq, Nat.reduceAdd, Nat.reduceMul, Nat.reduceSub, Nat.reduceLT, Nat.reduceLeDiff, Nat.reduceEqDiff, Nat.reduceBEq, Nat.reduceBNe, Int.reduceLT, Int.reduceLE, Int.reduceEq, Int.reduceNe, Int.reduceAdd, Int.reduceSub, Int.reduceNeg, Int.reduceToNat, Int.reduceMul, ↓reduceIte, Int.reduceGT, Int.reduceGE, ptr_nl, ptr_nd, eqc_nn, PutF]
    | node b u j l r =>
      rw [hf] at hat hg2
      have hb := hat.1
      have hbl := hget_some_lt hb
      cases u with
      | true => simp [TT.er, T.get] at hg2
      | false => simp (disch := first | omega | (simp only [fsLen]; omega)) only [↓fsPre, fsPost, fsCond, fsGen, fsDefs, cls, eqVal, vbGen, fill_bits, reduceCtorEq, Nat.reduceAdd, Nat.reduceMul, Nat.reduceSub, Nat.reduceLT, Nat.reduceLeDiff, Nat.reduceEqDiff, Nat.reduceBEq, Nat.reduceBNe, Int.reduceLT, Int.reduceLE, Int.reduceEq, Int.reduceNe, Int.reduceAdd, Int.reduceSub, Int.reduceNeg, Int.reduceToNat, Int.reduceMul, ↓reduceIte, Int.reduceGT, Int.reduceGE, ptr_nl, ptr_nd, eqc_pn, hb, PutF]
  rintro F h ⟨⟨f0, f2, f3, f5⟩, rfl⟩
  simp (disch := first | omega | (simp only [fsLen]; omega)) only [↓fsPre, fsPost, fsCond, fsGen, fsDefs, cls, eqVal, vbGen, fill_bits, reduceCtorEq, Nat.reduceAdd, Nat.reduceMul, Nat.reduceSub, Nat.reduceLT, Nat.reduceLeDiff, Nat.reduceEqDiff, Nat.reduceBEq, Nat.reduceBNe, Int.reduceLT, Int.reduceLE, Int.reduceEq, Int.reduceNe, Int.reduceAdd, Int.reduceSub, Int.reduceNeg, Int.reduceToNat, Int.reduceMul, ↓reduceIte, Int.reduceGT, Int.reduceGE]
  refine fwp_cutJ (fun F h => PutF q m i H.length F ∧ hget h H.length = some (.cells [nb (hiOf v), nb (loOf v)] false) ∧ ∃ tt, PutI H q bits t [] h tt) ?_ ?_
  · simp only [putD, t10, NCode.a1, NCode.a2]
    cases t with
    | nil =>
      rw [ptr_nl] at hq
      simp (disch := first | omega | (simp only [fsLen]; omega)) only [↓fsPre, fsPost, fsCond, fsGen, fsDefs, cls, eqVal, vbGen, fill_bits, reduceCtorEq, Nat.reduceAdd, Nat.reduceMul, Nat.reduceSub, Nat.reduceLT, Nat.reduceLeDiff, Nat.reduceEqDiff, Nat.reduceBEq, Nat.reduceBNe, Int.reduceLT, Int.reduceLE, Int.reduceEq, Int.reduceNe, Int.reduceAdd, Int.reduceSub, Int.reduceNeg, Int.reduceToNat, Int.reduceMul, ↓reduceIte, Int.reduceGT, Int.reduceGE, f0, f2, f3, f5, hq, eqc_nn, PutF]
      refine ⟨.node (H.length + 1) false 0 .nil .nil, ⟨?_, ⟨?_, trivial, trivial⟩, ?_⟩, rfl, ?_, ?_, ?_⟩
      · rw [hget_appl (by rw [length_hset]; exact lq), hget_hset_same lq]; rfl
      · simp (disch := first | omega | (simp only [fsLen]; omega)) only [↓fsPre, fsPost, fsCond, fsGen, fsDefs, cls, eqVal, vbGen, fill_bits, reduceCtorEq, Nat.reduceAdd, Nat.reduceMul, Nat.reduceSub, Nat.reduceLT, Nat.reduceLeDiff, Nat.reduceEqDiff, Nat.reduceBEq, Nat.reduceBNe, Int.reduceLT, Int.reduceLE, Int.reduceEq, Int.reduceNe, Int.reduceAdd, Int.reduceSub, Int.reduceNeg, Int.reduceToNat, Int.reduceMul, ↓reduceIte, Int.reduceGT, Int.reduceGE, ptr_nl]
      · simp [TT.bl]; omega
      · intro c hc h1 _
        rw [hget_appl (by rw [length_hset]; exact hc), hget_hset_ne (Ne.symm h1)]
      · intro c hc
        simp [TT.bl] at hc; omega
      · simp
    | node b u j l r =>
      rw [ptr_nd] at hq
      simp (disch := first | omega | (simp only [fsLen]; omega)) only [↓fsPre, fsPost, fsCond, fsGen, fsDefs, cls, eqVal, vbGen, fill_bits, reduceCtorEq, Nat.reduceAdd, Nat.reduceMul, Nat.reduceSub, Nat.reduceLT, Nat.reduceLeDiff, Nat.reduceEqDiff, Nat.reduceBEq, Nat.reduceBNe, Int.reduceLT, Int.reduceLE, Int.reduceEq, Int.reduceNe, Int.reduceAdd, Int.reduceSub, Int.reduceNeg, Int.reduceToNat, Int.reduceMul, ↓reduceIte, Int.reduceGT, Int.reduceGE, f0, f2, f3, f5, hq, eqc_pn, PutF]
      refine ⟨_, ht.app _, rfl, fun b hb _ _ => hget_appl hb, fun b hb => .inl hb, by simp⟩
  rintro F h ⟨⟨f0, f2, f3, f5⟩, hv, tt, I⟩
  simp (disch := first | omega | (simp only [fsLen]; omega)) only [↓fsPre, fsPost, fsCond, fsGen, fsDefs, cls, eqVal, vbGen, fill_bits, reduceCtorEq, Nat.reduceAdd, Nat.reduceMul, Nat.reduceSub, Nat.reduceLT, Nat.reduceLeDiff, Nat.reduceEqDiff, Nat.reduceBEq, Nat.reduceBNe, Int.reduceLT, Int.reduceLE, Int.reduceEq, Int.reduceNe, Int.reduceAdd, Int.reduceSub, Int.reduceNeg, Int.reduceToNat, Int.reduceMul, ↓reduceIte, Int.reduceGT, Int.reduceGE]
  simp only [putE, t10, NCode.a1, NCode.a2]
  have hq2 := I.tr.hd
  have lq2 := hget_some_lt hq2
  have lv := hget_some_lt hv
  have hlen := I.len
  simp (disch := first | omega | (simp only [fsLen]; omega)) only [↓fsPre, fsPost, fsCond, fsGen, fsDefs, cls, eqVal, vbGen, fill_bits, reduceCtorEq, Nat.reduceAdd, Nat.reduceMul, Nat.reduceSub, Nat.reduceLT, Nat.reduceLeDiff, Nat.reduceEqDiff, Nat.reduceBEq, Nat.reduceBNe, Int.reduceLT, Int.reduceLE, Int.reduceEq, Int.reduceNe, Int.reduceAdd, Int.reduceSub, Int.reduceNeg, Int.reduceToNat, Int.reduceMul, ↓reduceIte, Int.reduceGT, Int.reduceGE, f0, f2, f3, f5, hq2, TT.ptr_flat, TT.ptr_one, TT.ptr_cells]
  refine fwp_cutJ (fun F g => PutF q m i H.length F ∧ F 10 = .ptr (some (h.length, 0)) ∧ ∃ tt, PutI H q bits t (pathB bits m v) g tt ∧ hget g h.length = some (.cells [(tt.find (pathB bits m v)).ptr] false)) ?_ ?_
  · simp only [putF, t10, NCode.a1, NCode.a2]
    simp (disch := first | omega | (simp only [fsLen]; omega)) only [↓fsPre, fsPost, fsCond, fsGen, fsDefs, cls, eqVal, vbGen, fill_bits, reduceCtorEq, Nat.reduceAdd, Nat.reduceMul, Nat.reduceSub, Nat.reduceLT, Nat.reduceLeDiff, Nat.reduceEqDiff, Nat.reduceBEq, Nat.reduceBNe, Int.reduceLT, Int.reduceLE, Int.reduceEq, Int.reduceNe, Int.reduceAdd, Int.reduceSub, Int.reduceNeg, Int.reduceToNat, Int.reduceMul, ↓reduceIte, Int.reduceGT, Int.reduceGE, f0, f2, f3, f5, hv]
    refine callT_one (hpa _) rfl ?_
    simp (disch := first | omega | (simp only [fsLen]; omega)) only [↓fsPre, fsPost, fsCond, fsGen, fsDefs, cls, eqVal, vbGen, fill_bits, reduceCtorEq, Nat.reduceAdd, Nat.reduceMul, Nat.reduceSub, Nat.reduceLT, Nat.reduceLeDiff, Nat.reduceEqDiff, Nat.reduceBEq, Nat.reduceBNe, Int.reduceLT, Int.reduceLE, Int.reduceEq, Int.reduceNe, Int.reduceAdd, Int.reduceSub, Int.reduceNeg, Int.reduceToNat, Int.reduceMul, ↓reduceIte, Int.reduceGT, Int.reduceGE, f0, f2, f3, f5]
    refine wrange (fun j g => KeepP (h.length + 3) (h.length + 2) (h.length + 1) q bits m v g ∧ ∃ tt, PutI H q bits t (pathB bits j v) g tt ∧ hget g h.length = some (.cells [(tt.find (pathB bits j v)).ptr] false)) ?_ (t46_ok).1 (iter_path (h.length + 3) (h.length + 2) (h.length + 1) q bits m v hb hm) ?_ ?_ ?_ ?_
    · simp (disch := first | omega | (simp only [fsLen]; omega)) only [↓fsPre, fsPost, fsCond, fsGen, fsDefs, cls, eqVal, vbGen, fill_bits, reduceCtorEq, Nat.reduceAdd, Nat.reduceMul, Nat.reduceSub, Nat.reduceLT, Nat.reduceLeDiff, Nat.reduceEqDiff, Nat.reduceBEq, Nat.reduceBNe, Int.reduceLT, Int.reduceLE, Int.reduceEq, Int.reduceNe, Int.reduceAdd, Int.reduceSub, Int.reduceNeg, Int.reduceToNat, Int.reduceMul, ↓reduceIte, Int.reduceGT, Int.reduceGE]
    · rw [List.append_assoc]
      refine ⟨⟨by simp (disch := first | omega | (simp only [fsLen]; omega)) only [↓fsPre, fsPost, fsCond, fsGen, fsDefs, cls, eqVal, vbGen, fill_bits, reduceCtorEq, Nat.reduceAdd, Nat.reduceMul, Nat.reduceSub, Nat.reduceLT, Nat.reduceLeDiff, Nat.reduceEqDiff, Nat.reduceBEq, Nat.reduceBNe, Int.reduceLT, Int.reduceLE, Int.reduceEq, Int.reduceNe, Int.reduceAdd, Int.reduceSub, Int.reduceNeg, Int.reduceToNat, Int.reduceMul, ↓reduceIte, Int.reduceGT, Int.reduceGE], by simp (disch := first | omega | (simp only [fsLen]; omega)) only [↓fsPre, fsPost, fsCond, fsGen, fsDefs, cls, eqVal, vbGen, fill_bits, reduceCtorEq, Nat.reduceAdd, Nat.reduceMul, Nat.reduceSub, Nat.reduceLT, Nat.reduceLeDiff, Nat.reduceEqDiff, Nat.reduceBEq, Nat.reduceBNe, Int.reduceLT, Int.reduceLE, Int.reduceEq, Int.reduceNe, Int.reduceAdd, Int.reduceSub, Int.reduceNeg, Int.reduceToNat, Int.reduceMul, ↓reduceIte, Int.reduceGT, Int.reduceGE], by simp (disch := first | omega | (simp only [fsLen]; omega)) only [↓fsPre, fsPost, fsCond, fsGen, fsDefs, cls, eqVal, vbGen, fill_bits, reduceCtorEq, Nat.reduceAdd, Nat.reduceMul, Nat.reduceSub, Nat.reduceLT, Nat.reduceLeDiff, Nat.reduceEqDiff, Nat.reduceBEq, Nat.reduceBNe, Int.reduceLT, Int.reduceLE, Int.reduceEq, Int.reduceNe, Int.reduceAdd, Int.reduceSub, Int.reduceNeg, Int.reduceToNat, Int.reduceMul, ↓reduceIte, Int.reduceGT, Int.reduceGE], ⟨_, by rw [hget_appl lq2]; exact hq2⟩⟩, tt, I.app _, ?_⟩
      simp (disch := first | omega | (simp only [fsLen]; omega)) only [↓fsPre, fsPost, fsCond, fsGen, fsDefs, cls, eqVal, vbGen, fill_bits, reduceCtorEq, Nat.reduceAdd, Nat.reduceMul, Nat.reduceSub, Nat.reduceLT, Nat.reduceLeDiff, Nat.reduceEqDiff, Nat.reduceBEq, Nat.reduceBNe, Int.reduceLT, Int.reduceLE, Int.reduceEq, Int.reduceNe, Int.reduceAdd, Int.reduceSub, Int.reduceNeg, Int.reduceToNat, Int.reduceMul, ↓reduceIte, Int.reduceGT, Int.reduceGE]
      rw [show pathB bits 0 v = [] from rfl, TT.find_empty]
    · rintro j g hj ⟨hk, _⟩
      exact hk
    · rintro j g hj ⟨hk, tt, I, ha⟩
      rw [pathV_get hj]
      rw [pathV_length] at hj
      obtain ⟨k1, k2, k3, kr, k4⟩ := hk
      have hst := pathB_succ (bits := bits) (n := j) (v := v)
      have hat := I.tr.at_.find (pathB bits j v)
      have hn := I.find
      have la := hget_some_lt ha
      have na := I.tr.at_.not_mem ha (by simp)
      cases hf : tt.find (pathB bits j v) with
      | nil => exact absurd hf hn
      | node b u c l r =>
        rw [hf] at hat ha
        rw [ptr_nd] at ha
        have hb := hat.1
        have lb := hget_some_lt hb
        have hba : b ≠ h.length := by rintro rfl; rw [ha] at hb; simp at hb
        cases hx : bitAt bits v j with
        | false =>
          rw [hx] at hst
          cases l with
          | nil =>
            have hk : KeepP (h.length + 3) (h.length + 2) (h.length + 1) q bits m v g := ⟨k1, k2, k3, kr, k4⟩
            have hround := fun g' => put_round (g' := g') (x := false) hk I hf hx rfl ha hlen lq
            rw [ptr_nl] at hb
            simp (disch := first | omega | (simp only [fsLen]; omega)) only [↓fsPre, fsPost, fsCond, fsGen, fsDefs, cls, eqVal, vbGen, fill_bits, reduceCtorEq, Nat.reduceAdd, Nat.reduceMul, Nat.reduceSub, Nat.reduceLT, Nat.reduceLeDiff, Nat.reduceEqDiff, Nat.reduceBEq, Nat.reduceBNe, Int.reduceLT, Int.reduceLE, Int.reduceEq, Int.reduceNe, Int.reduceAdd, Int.reduceSub, Int.reduceNeg, Int.reduceToNat, Int.reduceMul, ↓reduceIte, Int.reduceGT, Int.reduceGE, rngA_nrm, rngB_nrm, rngB_exit, rngB_ret, f0, f2, f3, f5, ha, hb, eqc_nn, eqc_pn, bitNV_f, ptr_nl, ptr_nd, TT.ptr_flat, TT.ptr_one, TT.ptr_cells]
            obtain ⟨hk', tt', I', h'⟩ := hround (hset (hset g b (NBlk.cells [NV.ptr (some (List.length g, 0)), r.ptr, NV.bool u, NV.int IntKind.i64 c] false)) (List.length h) (NBlk.cells [NV.ptr (some (List.length g, 0))] false) ++ [some (NBlk.cells [NV.ptr none, NV.ptr none, NV.bool false, NV.int IntKind.i64 0] false)]) (by simp (disch := first | omega | (simp only [fsLen]; omega)) only [↓fsPre, fsPost, fsCond, fsGen, fsDefs, cls, eqVal, vbGen, fill_bits, reduceCtorEq, Nat.reduceAdd, Nat.reduceMul, Nat.reduceSub, Nat.reduceLT, Nat.reduceLeDiff, Nat.reduceEqDiff, Nat.reduceBEq, Nat.reduceBNe, Int.reduceLT, Int.reduceLE, Int.reduceEq, Int.reduceNe, Int.reduceAdd, Int.reduceSub, Int.reduceNeg, Int.reduceToNat, Int.reduceMul, ↓reduceIte, Int.reduceGT, Int.reduceGE]) (by rw [hget_appl (by simp only [length_hset]; exact lb), hget_hset_ne (Ne.symm hba), hget_hset_same lb]; rfl)
              (fun d hd h1 h2 => by rw [hget_appl (by simp only [length_hset]; exact hd), hget_hset_ne (Ne.symm h2), hget_hset_ne (Ne.symm h1)]) (by simp)
            exact ⟨hk', tt', I', by rw [h']⟩
          | node b2 u2 c2 l2 r2 =>
            have hf2 : tt.find (pathB bits (j + 1) v) = .node b2 u2 c2 l2 r2 := by rw [hst, TT.find_step hf]; rfl
            have I2 : PutI H q bits t (pathB bits (j + 1) v) g tt := by rw [hst]; exact I.same (by rw [← hst, hf2]; simp)
            have hb2 : b2 ≠ h.length := fun e => na (e ▸ TT.find_bl (pathB bits (j + 1) v) tt b2 (by rw [hf2]; exact List.mem_cons_self ..))
            rw [ptr_nd] at hb
            simp (disch := first | omega | (simp only [fsLen]; omega)) only [↓fsPre, fsPost, fsCond, fsGen, fsDefs, cls, eqVal, vbGen, fill_bits, reduceCtorEq, Nat.reduceAdd, Nat.reduceMul, Nat.reduceSub, Nat.reduceLT, Nat.reduceLeDiff, Nat.reduceEqDiff, Nat.reduceBEq, Nat.reduceBNe, Int.reduceLT, Int.reduceLE, Int.reduceEq, Int.reduceNe, Int.reduceAdd, Int.reduceSub, Int.reduceNeg, Int.reduceToNat, Int.reduceMul, ↓reduceIte, Int.reduceGT, Int.reduceGE, rngA_nrm, rngB_nrm, rngB_exit, rngB_ret, f0, f2, f3, f5, ha, hb, eqc_nn, eqc_pn, bitNV_f, ptr_nl, ptr_nd, TT.ptr_flat, TT.ptr_one, TT.ptr_cells]
            refine ⟨⟨?_, ?_, ?_, kr, ?_⟩, tt, I2.set hlen na lq, by rw [hf2]; rfl⟩
            · rw [hget_hset_ne (by omega)]; exact k1
            · rw [hget_hset_ne (by omega)]; exact k2
            · rw [hget_hset_ne (by omega)]; exact k3
            · rw [hget_hset_ne (by omega)]; exact k4
        | true =>
          rw [hx] at hst
          cases r with
          | nil =>
            have hk : KeepP (h.length + 3) (h.length + 2) (h.length + 1) q bits m v g := ⟨k1, k2, k3, kr, k4⟩
            have hround := fun g' => put_round (g' := g') (x := true) hk I hf hx rfl ha hlen lq
            rw [ptr_nl] at hb
            simp (disch := first | omega | (simp only [fsLen]; omega)) only [↓fsPre, fsPost, fsCond, fsGen, fsDefs, cls, eqVal, vbGen, fill_bits, reduceCtorEq, Nat.reduceAdd, Nat.reduceMul, Nat.reduceSub, Nat.reduceLT, Nat.reduceLeDiff, Nat.reduceEqDiff, Nat.reduceBEq, Nat.reduceBNe, Int.reduceLT, Int.reduceLE, Int.reduceEq, Int.reduceNe, Int.reduceAdd, Int.reduceSub, Int.reduceNeg, Int.reduceToNat, Int.reduceMul, ↓reduceIte, Int.reduceGT, Int.reduceGE, rngA_nrm, rngB_nrm, rngB_exit, rngB_ret, f0, f2, f3, f5, ha, hb, eqc_nn, eqc_pn, bitNV_t, ptr_nl, ptr_nd, TT.ptr_flat, TT.ptr_one, TT.ptr_cells]
            obtain ⟨hk', tt', I', h'⟩ := hround (hset (hset g b (NBlk.cells [l.ptr, NV.ptr (some (List.length g, 0)), NV.bool u, NV.int IntKind.i64 c] false)) (List.length h) (NBlk.cells [NV.ptr (some (List.length g, 0))] false) ++ [some (NBlk.cells [NV.ptr none, NV.ptr none, NV.bool false, NV.int IntKind.i64 0] false)]) (by simp (disch := first | omega | (simp only [fsLen]; omega)) only [↓fsPre, fsPost, fsCond, fsGen, fsDefs, cls, eqVal, vbGen, fill_bits, reduceCtorEq, Nat.reduceAdd, Nat.reduceMul, Nat.reduceSub, Nat.reduceLT, Nat.reduceLeDiff, Nat.reduceEqDiff, Nat.reduceBEq, Nat.reduceBNe, Int.reduceLT, Int.reduceLE, Int.reduceEq, Int.reduceNe, Int.reduceAdd, Int.reduceSub, Int.reduceNeg, Int.reduceToNat, Int.reduceMul, ↓reduceIte, Int.reduceGT, Int.reduceGE]) (by rw [hget_appl (by simp only [length_hset]; exact lb), hget_hset_ne (Ne.symm hba), hget_hset_same lb]; rfl)
              (fun d hd h1 h2 => by rw [hget_appl (by simp only [length_hset]; exact hd), hget_hset_ne (Ne.symm h2), hget_hset_ne (Ne.symm h1)]) (by simp)
            exact ⟨hk', tt', I', by rw [h']⟩
          | node b2 u2 c2 l2 r2 =>
            have hf2 : tt.find (pathB bits (j + 1) v) = .node b2 u2 c2 l2 r2 := by rw [hst, TT.find_step hf]; rfl
            have I2 : PutI H q bits t (pathB bits (j + 1) v) g tt := by rw [hst]; exact I.same (by rw [← hst, hf2]; simp)
            have hb2 : b2 ≠ h.length := fun e => na (e ▸ TT.find_bl (pathB bits (j + 1) v) tt b2 (by rw [hf2]; exact List.mem_cons_self ..))
            rw [ptr_nd] at hb
            simp (disch := first | omega | (simp only [fsLen]; omega)) only [↓fsPre, fsPost, fsCond, fsGen, fsDefs, cls, eqVal, vbGen, fill_bits, reduceCtorEq, Nat.reduceAdd, Nat.reduceMul, Nat.reduceSub, Nat.reduceLT, Nat.reduceLeDiff, Nat.reduceEqDiff, Nat.reduceBEq, Nat.reduceBNe, Int.reduceLT, Int.reduceLE, Int.reduceEq, Int.reduceNe, Int.reduceAdd, Int.reduceSub, Int.reduceNeg, Int.reduceToNat, Int.reduceMul, ↓reduceIte, Int.reduceGT, Int.reduceGE, rngA_nrm, rngB_nrm, rngB_exit, rngB_ret, f0, f2, f3, f5, ha, hb, eqc_nn, eqc_pn, bitNV_t, ptr_nl, ptr_nd, TT.ptr_flat, TT.ptr_one, TT.ptr_cells]
            refine ⟨⟨?_, ?_, ?_, kr, ?_⟩, tt, I2.set hlen na lq, by rw [hf2]; rfl⟩
            · rw [hget_hset_ne (by omega)]; exact k1
            · rw [hget_hset_ne (by omega)]; exact k2
            · rw [hget_hset_ne (by omega)]; exact k3
            · rw [hget_hset_ne (by omega)]; exact k4
    · rintro g ⟨hk, tt, I, ha⟩
      rw [pathV_length] at I ha
      simp (disch := first | omega | (simp only [fsLen]; omega)) only [↓fsPre, fsPost, fsCond, fsGen, fsDefs, cls, eqVal, vbGen, fill_bits, reduceCtorEq, Nat.reduceAdd, Nat.reduceMul, Nat.reduceSub, Nat.reduceLT, Nat.reduceLeDiff, Nat.reduceEqDiff, Nat.reduceBEq, Nat.reduceBNe, Int.reduceLT, Int.reduceLE, Int.reduceEq, Int.reduceNe, Int.reduceAdd, Int.reduceSub, Int.reduceNeg, Int.reduceToNat, Int.reduceMul, ↓reduceIte, Int.reduceGT, Int.reduceGE, f0, f2, f3, f5, PutF]
      exact ⟨tt, I, ha⟩
  rintro F g ⟨⟨f0, f2, f3, f5⟩, f10, tt, I, ha⟩
  simp (disch := first | omega | (simp only [fsLen]; omega)) only [↓fsPre, fsPost, fsCond, fsGen, fsDefs, cls, eqVal, vbGen, fill_bits, reduceCtorEq, Nat.reduceAdd, Nat.reduceMul, Nat.reduceSub, Nat.reduceLT, Nat.reduceLeDiff, Nat.reduceEqDiff, Nat.reduceBEq, Nat.reduceBNe, Int.reduceLT, Int.reduceLE, Int.reduceEq, Int.reduceNe, Int.reduceAdd, Int.reduceSub, Int.reduceNeg, Int.reduceToNat, Int.reduceMul, ↓reduceIte, Int.reduceGT, Int.reduceGE]
  simp only [putG, t10, NCode.a1, NCode.a2]
  cases hf : tt.find (pathB bits m v) with
  | nil => exact absurd hf I.find
  | node b u c l r =>
    have hat := I.tr.at_.find (pathB bits m v)
    rw [hf] at hat ha
    rw [ptr_nd] at ha
    have hb := hat.1
    have lb := hget_some_lt hb
    have la := hget_some_lt ha
    have hba : b ≠ h.length := by rintro rfl; rw [ha] at hb; simp at hb
    have ha2 : hget (hset g b (.cells [l.ptr, r.ptr, .bool true, .int .i64 c] false)) h.length = some (.cells [.ptr (some (b, 0))] false) := by rw [hget_hset_ne hba]; exact ha
    simp (disch := first | omega | (simp only [fsLen]; omega)) only [↓fsPre, fsPost, fsCond, fsGen, fsDefs, cls, eqVal, vbGen, fill_bits, reduceCtorEq, Nat.reduceAdd, Nat.reduceMul, Nat.reduceSub, Nat.reduceLT, Nat.reduceLeDiff, Nat.reduceEqDiff, Nat.reduceBEq, Nat.reduceBNe, Int.reduceLT, Int.reduceLE, Int.reduceEq, Int.reduceNe, Int.reduceAdd, Int.reduceSub, Int.reduceNeg, Int.reduceToNat, Int.reduceMul, ↓reduceIte, Int.reduceGT, Int.reduceGE, f0, f2, f3, f5, f10, ha, ha2, hb]
    simp only [putH, t10, NCode.a1, NCode.a2]
    simp (disch := first | omega | (simp only [fsLen]; omega)) only [↓fsPre, fsPost, fsCond, fsGen, fsDefs, cls, eqVal, vbGen, fill_bits, reduceCtorEq, Nat.reduceAdd, Nat.reduceMul, Nat.reduceSub, Nat.reduceLT, Nat.reduceLeDiff, Nat.reduceEqDiff, Nat.reduceBEq, Nat.reduceBNe, Int.reduceLT, Int.reduceLE, Int.reduceEq, Int.reduceNe, Int.reduceAdd, Int.reduceSub, Int.reduceNeg, Int.reduceToNat, Int.reduceMul, ↓reduceIte, Int.reduceGT, Int.reduceGE]
    exact I.mark hf lq (hget_hset_same lb) (fun d hd h1 => hget_hset_ne (Ne.symm h1)) (by simp)
end Go.Proofs
