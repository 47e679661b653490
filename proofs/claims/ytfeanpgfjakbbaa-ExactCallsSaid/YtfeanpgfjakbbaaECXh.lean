/- Exact: ExactCalls. -/
import Derived.Test.YtfeanpgfjakbbaaECXg
set_option linter.unusedSimpArgs false
set_option linter.unusedVariables false
set_option maxRecDepth 100000
namespace Go.Proofs
open Go.Ns

theorem prC_fill (x : Pt × Int) : prC x ++ List.drop (prC x).length [NV.int .u64 0, NV.int .u64 0, NV.int .u64 0, NV.int .u64 0, NV.int .u64 0, NV.int .u64 0, NV.int .u64 0, NV.int .u64 0, NV.int .i64 0] = prC x := by
  rw [prC_length]; exact List.append_nil _
theorem prC_pt (x : Pt × Int) : cut (prC x) 0 8 = some (ptC x.1) := rfl

theorem same11_ok (H : Heap) (v w : NV) (L : List (Pt × Int)) (hv : GrE H (L.flatMap prC) v) (hw : GrE H (L.flatMap prC) w) (hL : L.length ≤ 100) :
    NCall Try.prog 17 [v, w] H fun r => r = (.bool true, H) := by
  refine call_pure E0 mixed t17_ok (by kernel_rfl) trivial ?_
  obtain ⟨A, c, rfl, hA⟩ := hv.prs
  obtain ⟨B, d, rfl, hB⟩ := hw.prs
  simp only [t17]
  simp (disch := first | omega | (simp only [List.length_append, List.length_cons, List.length_nil, length_hset, length_hkill]; omega)) only [↓fsPre, fsPost, fsCond, fsGen, npick, nbin, nun, nconv, nnilCheck, noff, nidxArr, nidxSl, nfield, npart, nindex, nextract, nlenSl, nlenStr, ncap, mmx, minmax2, nslice, nsliceArr, nbounds, obound, bound, adv, nbits, eqVal, eqCell, eqCells, nfill, lenOfSl, cls, fresults, fresl, fres1, gt_iff_lt, ge_iff_le, reduceCtorEq, Nat.reduceAdd, Nat.reduceMul, Nat.reduceSub, Nat.reduceLT, Nat.reduceLeDiff, Nat.reduceEqDiff, Nat.reduceBEq, Nat.reduceBNe, Int.reduceLT, Int.reduceLE, Int.reduceEq, Int.reduceNe, Int.reduceAdd, Int.reduceSub, Int.reduceNeg, Int.reduceToNat, Int.reduceMul, ↓reduceIte, Int.reduceGT, Int.reduceGE]
  refine wloop (fun j F h => F 1 = .slice B L.length d ∧ F 12 = .slice A L.length c ∧ F 13 = .int .i64 L.length ∧ F 14 = .int .i64 j ∧ ∃ J, h = H ++ J) L.length ?_ ?_ ?_
  · simp (disch := first | omega | (simp only [List.length_append, List.length_cons, List.length_nil, length_hset, length_hkill]; omega)) only [↓fsPre, fsPost, fsCond, fsGen, npick, nbin, nun, nconv, nnilCheck, noff, nidxArr, nidxSl, nfield, npart, nindex, nextract, nlenSl, nlenStr, ncap, mmx, minmax2, nslice, nsliceArr, nbounds, obound, bound, adv, nbits, eqVal, eqCell, eqCells, nfill, lenOfSl, cls, fresults, fresl, fres1, gt_iff_lt, ge_iff_le, reduceCtorEq, Nat.reduceAdd, Nat.reduceMul, Nat.reduceSub, Nat.reduceLT, Nat.reduceLeDiff, Nat.reduceEqDiff, Nat.reduceBEq, Nat.reduceBNe, Int.reduceLT, Int.reduceLE, Int.reduceEq, Int.reduceNe, Int.reduceAdd, Int.reduceSub, Int.reduceNeg, Int.reduceToNat, Int.reduceMul, ↓reduceIte, Int.reduceGT, Int.reduceGE]
    exact ⟨[], by simp⟩
  · rintro j F h hj ⟨f1, f12, f13, f14, J, rfl⟩
    rcases hA with ⟨_, rfl⟩ | ⟨rfl, h0, b, rfl, hb⟩
    · simp at hj
    rcases hB with ⟨_, rfl⟩ | ⟨rfl, h0, b', rfl, hb'⟩
    · simp at hj
    have lb := hget_some_lt hb
    have lb' := hget_some_lt hb'
    have hc : cut (L.flatMap prC) (j * 9) 9 = some (prC L[j]) := cut_flatMap prC_length hj
    have hc8 := prs_pt hj
    have hci : (L.flatMap prC)[j * 9 + 8]? = some (.int .i64 L[j].2) := by rw [cut_get hc (by omega)]; rfl
    simp (disch := first | omega | (simp only [List.length_append, List.length_cons, List.length_nil, length_hset, length_hkill]; omega)) only [↓fsPre, fsPost, fsCond, fsGen, npick, nbin, nun, nconv, nnilCheck, noff, nidxArr, nidxSl, nfield, npart, nindex, nextract, nlenSl, nlenStr, ncap, mmx, minmax2, nslice, nsliceArr, nbounds, obound, bound, adv, nbits, eqVal, eqCell, eqCells, nfill, lenOfSl, cls, fresults, fresl, fres1, gt_iff_lt, ge_iff_le, reduceCtorEq, Nat.reduceAdd, Nat.reduceMul, Nat.reduceSub, Nat.reduceLT, Nat.reduceLeDiff, Nat.reduceEqDiff, Nat.reduceBEq, Nat.reduceBNe, Int.reduceLT, Int.reduceLE, Int.reduceEq, Int.reduceNe, Int.reduceAdd, Int.reduceSub, Int.reduceNeg, Int.reduceToNat, Int.reduceMul, ↓reduceIte, Int.reduceGT, Int.reduceGE, f1, f12, f13, f14, hb, hb', hc, hc8, hci, prC_fill, prC_pt, prC_length, prC_one, prC_id, ptC_one, ptC_length, eq_pt]
    try exact ⟨_, rfl⟩
  · rintro F h ⟨f1, f12, f13, f14, J, rfl⟩
    simp (disch := first | omega | (simp only [List.length_append, List.length_cons, List.length_nil, length_hset, length_hkill]; omega)) only [↓fsPre, fsPost, fsCond, fsGen, npick, nbin, nun, nconv, nnilCheck, noff, nidxArr, nidxSl, nfield, npart, nindex, nextract, nlenSl, nlenStr, ncap, mmx, minmax2, nslice, nsliceArr, nbounds, obound, bound, adv, nbits, eqVal, eqCell, eqCells, nfill, lenOfSl, cls, fresults, fresl, fres1, gt_iff_lt, ge_iff_le, reduceCtorEq, Nat.reduceAdd, Nat.reduceMul, Nat.reduceSub, Nat.reduceLT, Nat.reduceLeDiff, Nat.reduceEqDiff, Nat.reduceBEq, Nat.reduceBNe, Int.reduceLT, Int.reduceLE, Int.reduceEq, Int.reduceNe, Int.reduceAdd, Int.reduceSub, Int.reduceNeg, Int.reduceToNat, Int.reduceMul, ↓reduceIte, Int.reduceGT, Int.reduceGE, f1, f12, f13, f14]
    try exact ⟨_, rfl⟩
end Go.Proofs
