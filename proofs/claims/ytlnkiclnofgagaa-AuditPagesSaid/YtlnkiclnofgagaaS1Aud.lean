/- Audit: Records of both sides. -/
import Derived.Test.YtlnkiclnofgagaaS1SchQ
import Derived.Test.YtlnkiclnofgagaaS1C
set_option linter.unusedSimpArgs false
set_option linter.unusedVariables false
set_option maxRecDepth 10000
namespace Go.Proofs
open Go.Ns

theorem clos_ok (H : Heap) (p : Nat) (id x : Int) (s g a q u : NV) (hp : hget H p = some (.cells [.int .i64 id] false)) (ho : s.one = true ∧ g.one = true ∧ a.one = true ∧ q.one = true ∧ u.one = true) :
    NCall Try.prog 42 [.agg [.int .i64 x, s, g, a, q, u], .ptr (some (p, 0))] H fun r => r = (.bool (decide (x = id)), H) := by
  have hpl := hget_some_lt hp
  obtain ⟨o1, o2, o3, o4, o5⟩ := ho
  refine call_pure E0 mixed t42_ok (by kernel_rfl) trivial ?_
  simp only [t42]
  simp (disch := first | omega | (simp only [List.length_append, List.length_cons, List.length_nil, length_hset, length_hkill]; omega)) only [↓fsPre, fsPost, fsCond, fsGen, npick, nbin, nun, nconv, nnilCheck, noff, nidxArr, nidxSl, nfield, npart, nindex, nextract, nlenSl, nlenStr, ncap, mmx, minmax2, nslice, nsliceArr, nbounds, obound, bound, adv, nbits, eqVal, eqCell, eqCells, nfill, lenOfSl, cls, fresults, fresl, fres1, gt_iff_lt, ge_iff_le, reduceCtorEq, Nat.reduceAdd, Nat.reduceMul, Nat.reduceSub, Nat.reduceLT, Nat.reduceLeDiff, Nat.reduceEqDiff, Nat.reduceBEq, Nat.reduceBNe, Int.reduceLT, Int.reduceLE, Int.reduceEq, Int.reduceNe, Int.reduceAdd, Int.reduceSub, Int.reduceNeg, Int.reduceToNat, Int.reduceMul, ↓reduceIte, Int.reduceGT, Int.reduceGE, o1, o2, o3, o4, o5, hp]
  exact ⟨_, rfl⟩

theorem ixf_ok (H : Heap) (p b : Nat) (q : Nat → Int) (id : Int) (hr : RolesAt H b q) (hp : hget H p = some (.cells [.int .i64 id] false)) :
    NCall Try.prog 41 [.slice (some (b, 0)) 3 (.fix 3), .func (.func 42) [] [.ptr (some (p, 0))]] H fun r => r = (.int .i64 (rix id), H) := by
  have hbl := hr.lt
  obtain ⟨s0, s1, s2, g0, a0, g1, a1, g2, a2, hb, o1, o2, o3, o4, o5, o6⟩ := hr
  have c0 := clos_ok H p id 1 (.str s0) g0 a0 (.int .i64 (q 0)) (.bool true) hp ⟨rfl, o1, o2, rfl, rfl⟩
  have c1 := clos_ok H p id 2 (.str s1) g1 a1 (.int .i64 (q 1)) (.bool false) hp ⟨rfl, o3, o4, rfl, rfl⟩
  have c2 := clos_ok H p id 7 (.str s2) g2 a2 (.int .i64 (q 2)) (.bool false) hp ⟨rfl, o5, o6, rfl, rfl⟩
  refine call_of E0 mixed t41_ok (by kernel_rfl) (by rintro q rfl; simp) ?_
  simp only [t41]
  simp (disch := first | omega | (simp only [List.length_append, List.length_cons, List.length_nil, length_hset, length_hkill]; omega)) only [↓fsPre, fsPost, fsCond, fsGen, npick, nbin, nun, nconv, nnilCheck, noff, nidxArr, nidxSl, nfield, npart, nindex, nextract, nlenSl, nlenStr, ncap, mmx, minmax2, nslice, nsliceArr, nbounds, obound, bound, adv, nbits, eqVal, eqCell, eqCells, nfill, lenOfSl, cls, fresults, fresl, fres1, gt_iff_lt, ge_iff_le, reduceCtorEq, Nat.reduceAdd, Nat.reduceMul, Nat.reduceSub, Nat.reduceLT, Nat.reduceLeDiff, Nat.reduceEqDiff, Nat.reduceBEq, Nat.reduceBNe, Int.reduceLT, Int.reduceLE, Int.reduceEq, Int.reduceNe, Int.reduceAdd, Int.reduceSub, Int.reduceNeg, Int.reduceToNat, Int.reduceMul, ↓reduceIte, Int.reduceGT, Int.reduceGE]
  refine wloop (fun j F h => h = H ∧ F 0 = .slice (some (b, 0)) 3 (.fix 3) ∧ F 1 = .func (.func 42) [] [.ptr (some (p, 0))] ∧ F 7 = .int .i64 3 ∧ F 8 = .int .i64 j ∧ (1 ≤ j → id ≠ 1) ∧ (2 ≤ j → id ≠ 2) ∧ (3 ≤ j → id ≠ 7)) 3 ?_ ?_ ?_
  · simp (disch := first | omega | (simp only [List.length_append, List.length_cons, List.length_nil, length_hset, length_hkill]; omega)) only [↓fsPre, fsPost, fsCond, fsGen, npick, nbin, nun, nconv, nnilCheck, noff, nidxArr, nidxSl, nfield, npart, nindex, nextract, nlenSl, nlenStr, ncap, mmx, minmax2, nslice, nsliceArr, nbounds, obound, bound, adv, nbits, eqVal, eqCell, eqCells, nfill, lenOfSl, cls, fresults, fresl, fres1, gt_iff_lt, ge_iff_le, reduceCtorEq, Nat.reduceAdd, Nat.reduceMul, Nat.reduceSub, Nat.reduceLT, Nat.reduceLeDiff, Nat.reduceEqDiff, Nat.reduceBEq, Nat.reduceBNe, Int.reduceLT, Int.reduceLE, Int.reduceEq, Int.reduceNe, Int.reduceAdd, Int.reduceSub, Int.reduceNeg, Int.reduceToNat, Int.reduceMul, ↓reduceIte, Int.reduceGT, Int.reduceGE]
    simp
  · rintro j F h hj ⟨rfl, f0, f1, f7, f8, n1, n2, n3⟩
    match j, hj with
    | 0, _ =>
      simp (disch := first | omega | (simp only [List.length_append, List.length_cons, List.length_nil, length_hset, length_hkill]; omega)) only [↓fsPre, fsPost, fsCond, fsGen, npick, nbin, nun, nconv, nnilCheck, noff, nidxArr, nidxSl, nfield, npart, nindex, nextract, nlenSl, nlenStr, ncap, mmx, minmax2, nslice, nsliceArr, nbounds, obound, bound, adv, nbits, eqVal, eqCell, eqCells, nfill, lenOfSl, cls, fresults, fresl, fres1, gt_iff_lt, ge_iff_le, reduceCtorEq, Nat.reduceAdd, Nat.reduceMul, Nat.reduceSub, Nat.reduceLT, Nat.reduceLeDiff, Nat.reduceEqDiff, Nat.reduceBEq, Nat.reduceBNe, Int.reduceLT, Int.reduceLE, Int.reduceEq, Int.reduceNe, Int.reduceAdd, Int.reduceSub, Int.reduceNeg, Int.reduceToNat, Int.reduceMul, ↓reduceIte, Int.reduceGT, Int.reduceGE, f0, f1, f7, f8, hb]
      refine callT_one c0 rfl ?_
      simp (disch := first | omega | (simp only [List.length_append, List.length_cons, List.length_nil, length_hset, length_hkill]; omega)) only [↓fsPre, fsPost, fsCond, fsGen, npick, nbin, nun, nconv, nnilCheck, noff, nidxArr, nidxSl, nfield, npart, nindex, nextract, nlenSl, nlenStr, ncap, mmx, minmax2, nslice, nsliceArr, nbounds, obound, bound, adv, nbits, eqVal, eqCell, eqCells, nfill, lenOfSl, cls, fresults, fresl, fres1, gt_iff_lt, ge_iff_le, reduceCtorEq, Nat.reduceAdd, Nat.reduceMul, Nat.reduceSub, Nat.reduceLT, Nat.reduceLeDiff, Nat.reduceEqDiff, Nat.reduceBEq, Nat.reduceBNe, Int.reduceLT, Int.reduceLE, Int.reduceEq, Int.reduceNe, Int.reduceAdd, Int.reduceSub, Int.reduceNeg, Int.reduceToNat, Int.reduceMul, ↓reduceIte, Int.reduceGT, Int.reduceGE, f0, f1, f7, f8]
      refine condK_dec (fun he => ?_) (fun he => ?_)
      · simp (disch := first | omega | (simp only [List.length_append, List.length_cons, List.length_nil, length_hset, length_hkill]; omega)) only [↓fsPre, fsPost, fsCond, fsGen, npick, nbin, nun, nconv, nnilCheck, noff, nidxArr, nidxSl, nfield, npart, nindex, nextract, nlenSl, nlenStr, ncap, mmx, minmax2, nslice, nsliceArr, nbounds, obound, bound, adv, nbits, eqVal, eqCell, eqCells, nfill, lenOfSl, cls, fresults, fresl, fres1, gt_iff_lt, ge_iff_le, reduceCtorEq, Nat.reduceAdd, Nat.reduceMul, Nat.reduceSub, Nat.reduceLT, Nat.reduceLeDiff, Nat.reduceEqDiff, Nat.reduceBEq, Nat.reduceBNe, Int.reduceLT, Int.reduceLE, Int.reduceEq, Int.reduceNe, Int.reduceAdd, Int.reduceSub, Int.reduceNeg, Int.reduceToNat, Int.reduceMul, ↓reduceIte, Int.reduceGT, Int.reduceGE, f0, f1, f7, f8]
        rw [← he]; rfl
      · simp (disch := first | omega | (simp only [List.length_append, List.length_cons, List.length_nil, length_hset, length_hkill]; omega)) only [↓fsPre, fsPost, fsCond, fsGen, npick, nbin, nun, nconv, nnilCheck, noff, nidxArr, nidxSl, nfield, npart, nindex, nextract, nlenSl, nlenStr, ncap, mmx, minmax2, nslice, nsliceArr, nbounds, obound, bound, adv, nbits, eqVal, eqCell, eqCells, nfill, lenOfSl, cls, fresults, fresl, fres1, gt_iff_lt, ge_iff_le, reduceCtorEq, Nat.reduceAdd, Nat.reduceMul, Nat.reduceSub, Nat.reduceLT, Nat.reduceLeDiff, Nat.reduceEqDiff, Nat.reduceBEq, Nat.reduceBNe, Int.reduceLT, Int.reduceLE, Int.reduceEq, Int.reduceNe, Int.reduceAdd, Int.reduceSub, Int.reduceNeg, Int.reduceToNat, Int.reduceMul, ↓reduceIte, Int.reduceGT, Int.reduceGE, f0, f1, f7, f8]
        have n1' : 1 ≤ 0 → id ≠ 1 := n1
        have n2' : 2 ≤ 0 → id ≠ 2 := n2
        first | omega | (simp; omega)
    | 1, _ =>
      simp (disch := first | omega | (simp only [List.length_append, List.length_cons, List.length_nil, length_hset, length_hkill]; omega)) only [↓fsPre, fsPost, fsCond, fsGen, npick, nbin, nun, nconv, nnilCheck, noff, nidxArr, nidxSl, nfield, npart, nindex, nextract, nlenSl, nlenStr, ncap, mmx, minmax2, nslice, nsliceArr, nbounds, obound, bound, adv, nbits, eqVal, eqCell, eqCells, nfill, lenOfSl, cls, fresults, fresl, fres1, gt_iff_lt, ge_iff_le, reduceCtorEq, Nat.reduceAdd, Nat.reduceMul, Nat.reduceSub, Nat.reduceLT, Nat.reduceLeDiff, Nat.reduceEqDiff, Nat.reduceBEq, Nat.reduceBNe, Int.reduceLT, Int.reduceLE, Int.reduceEq, Int.reduceNe, Int.reduceAdd, Int.reduceSub, Int.reduceNeg, Int.reduceToNat, Int.reduceMul, ↓reduceIte, Int.reduceGT, Int.reduceGE, f0, f1, f7, f8, hb]
      refine callT_one c1 rfl ?_
      simp (disch := first | omega | (simp only [List.length_append, List.length_cons, List.length_nil, length_hset, length_hkill]; omega)) only [↓fsPre, fsPost, fsCond, fsGen, npick, nbin, nun, nconv, nnilCheck, noff, nidxArr, nidxSl, nfield, npart, nindex, nextract, nlenSl, nlenStr, ncap, mmx, minmax2, nslice, nsliceArr, nbounds, obound, bound, adv, nbits, eqVal, eqCell, eqCells, nfill, lenOfSl, cls, fresults, fresl, fres1, gt_iff_lt, ge_iff_le, reduceCtorEq, Nat.reduceAdd, Nat.reduceMul, Nat.reduceSub, Nat.reduceLT, Nat.reduceLeDiff, Nat.reduceEqDiff, Nat.reduceBEq, Nat.reduceBNe, Int.reduceLT, Int.reduceLE, Int.reduceEq, Int.reduceNe, Int.reduceAdd, Int.reduceSub, Int.reduceNeg, Int.reduceToNat, Int.reduceMul, ↓reduceIte, Int.reduceGT, Int.reduceGE, f0, f1, f7, f8]
      refine condK_dec (fun he => ?_) (fun he => ?_)
      · simp (disch := first | omega | (simp only [List.length_append, List.length_cons, List.length_nil, length_hset, length_hkill]; omega)) only [↓fsPre, fsPost, fsCond, fsGen, npick, nbin, nun, nconv, nnilCheck, noff, nidxArr, nidxSl, nfield, npart, nindex, nextract, nlenSl, nlenStr, ncap, mmx, minmax2, nslice, nsliceArr, nbounds, obound, bound, adv, nbits, eqVal, eqCell, eqCells, nfill, lenOfSl, cls, fresults, fresl, fres1, gt_iff_lt, ge_iff_le, reduceCtorEq, Nat.reduceAdd, Nat.reduceMul, Nat.reduceSub, Nat.reduceLT, Nat.reduceLeDiff, Nat.reduceEqDiff, Nat.reduceBEq, Nat.reduceBNe, Int.reduceLT, Int.reduceLE, Int.reduceEq, Int.reduceNe, Int.reduceAdd, Int.reduceSub, Int.reduceNeg, Int.reduceToNat, Int.reduceMul, ↓reduceIte, Int.reduceGT, Int.reduceGE, f0, f1, f7, f8]
        rw [← he]; rfl
      · simp (disch := first | omega | (simp only [List.length_append, List.length_cons, List.length_nil, length_hset, length_hkill]; omega)) only [↓fsPre, fsPost, fsCond, fsGen, npick, nbin, nun, nconv, nnilCheck, noff, nidxArr, nidxSl, nfield, npart, nindex, nextract, nlenSl, nlenStr, ncap, mmx, minmax2, nslice, nsliceArr, nbounds, obound, bound, adv, nbits, eqVal, eqCell, eqCells, nfill, lenOfSl, cls, fresults, fresl, fres1, gt_iff_lt, ge_iff_le, reduceCtorEq, Nat.reduceAdd, Nat.reduceMul, Nat.reduceSub, Nat.reduceLT, Nat.reduceLeDiff, Nat.reduceEqDiff, Nat.reduceBEq, Nat.reduceBNe, Int.reduceLT, Int.reduceLE, Int.reduceEq, Int.reduceNe, Int.reduceAdd, Int.reduceSub, Int.reduceNeg, Int.reduceToNat, Int.reduceMul, ↓reduceIte, Int.reduceGT, Int.reduceGE, f0, f1, f7, f8]
        have n1' : 1 ≤ 1 → id ≠ 1 := n1
        have n2' : 2 ≤ 1 → id ≠ 2 := n2
        first | omega | (simp; omega)
    | 2, _ =>
      simp (disch := first | omega | (simp only [List.length_append, List.length_cons, List.length_nil, length_hset, length_hkill]; omega)) only [↓fsPre, fsPost, fsCond, fsGen, npick, nbin, nun, nconv, nnilCheck, noff, nidxArr, nidxSl, nfield, npart, nindex, nextract, nlenSl, nlenStr, ncap, mmx, minmax2, nslice, nsliceArr, nbounds, obound, bound, adv, nbits, eqVal, eqCell, eqCells, nfill, lenOfSl, cls, fresults, fresl, fres1, gt_iff_lt, ge_iff_le, reduceCtorEq, Nat.reduceAdd, Nat.reduceMul, Nat.reduceSub, Nat.reduceLT, Nat.reduceLeDiff, Nat.reduceEqDiff, Nat.reduceBEq, Nat.reduceBNe, Int.reduceLT, Int.reduceLE, Int.reduceEq, Int.reduceNe, Int.reduceAdd, Int.reduceSub, Int.reduceNeg, Int.reduceToNat, Int.reduceMul, ↓reduceIte, Int.reduceGT, Int.reduceGE, f0, f1, f7, f8, hb]
      refine callT_one c2 rfl ?_
      simp (disch := first | omega | (simp only [List.length_append, List.length_cons, List.length_nil, length_hset, length_hkill]; omega)) only [↓fsPre, fsPost, fsCond, fsGen, npick, nbin, nun, nconv, nnilCheck, noff, nidxArr, nidxSl, nfield, npart, nindex, nextract, nlenSl, nlenStr, ncap, mmx, minmax2, nslice, nsliceArr, nbounds, obound, bound, adv, nbits, eqVal, eqCell, eqCells, nfill, lenOfSl, cls, fresults, fresl, fres1, gt_iff_lt, ge_iff_le, reduceCtorEq, Nat.reduceAdd, Nat.reduceMul, Nat.reduceSub, Nat.reduceLT, Nat.reduceLeDiff, Nat.reduceEqDiff, Nat.reduceBEq, Nat.reduceBNe, Int.reduceLT, Int.reduceLE, Int.reduceEq, Int.reduceNe, Int.reduceAdd, Int.reduceSub, Int.reduceNeg, Int.reduceToNat, Int.reduceMul, ↓reduceIte, Int.reduceGT, Int.reduceGE, f0, f1, f7, f8]
      refine condK_dec (fun he => ?_) (fun he => ?_)
      · simp (disch := first | omega | (simp only [List.length_append, List.length_cons, List.length_nil, length_hset, length_hkill]; omega)) only [↓fsPre, fsPost, fsCond, fsGen, npick, nbin, nun, nconv, nnilCheck, noff, nidxArr, nidxSl, nfield, npart, nindex, nextract, nlenSl, nlenStr, ncap, mmx, minmax2, nslice, nsliceArr, nbounds, obound, bound, adv, nbits, eqVal, eqCell, eqCells, nfill, lenOfSl, cls, fresults, fresl, fres1, gt_iff_lt, ge_iff_le, reduceCtorEq, Nat.reduceAdd, Nat.reduceMul, Nat.reduceSub, Nat.reduceLT, Nat.reduceLeDiff, Nat.reduceEqDiff, Nat.reduceBEq, Nat.reduceBNe, Int.reduceLT, Int.reduceLE, Int.reduceEq, Int.reduceNe, Int.reduceAdd, Int.reduceSub, Int.reduceNeg, Int.reduceToNat, Int.reduceMul, ↓reduceIte, Int.reduceGT, Int.reduceGE, f0, f1, f7, f8]
        rw [← he]; rfl
      · simp (disch := first | omega | (simp only [List.length_append, List.length_cons, List.length_nil, length_hset, length_hkill]; omega)) only [↓fsPre, fsPost, fsCond, fsGen, npick, nbin, nun, nconv, nnilCheck, noff, nidxArr, nidxSl, nfield, npart, nindex, nextract, nlenSl, nlenStr, ncap, mmx, minmax2, nslice, nsliceArr, nbounds, obound, bound, adv, nbits, eqVal, eqCell, eqCells, nfill, lenOfSl, cls, fresults, fresl, fres1, gt_iff_lt, ge_iff_le, reduceCtorEq, Nat.reduceAdd, Nat.reduceMul, Nat.reduceSub, Nat.reduceLT, Nat.reduceLeDiff, Nat.reduceEqDiff, Nat.reduceBEq, Nat.reduceBNe, Int.reduceLT, Int.reduceLE, Int.reduceEq, Int.reduceNe, Int.reduceAdd, Int.reduceSub, Int.reduceNeg, Int.reduceToNat, Int.reduceMul, ↓reduceIte, Int.reduceGT, Int.reduceGE, f0, f1, f7, f8]
        have n1' : 1 ≤ 2 → id ≠ 1 := n1
        have n2' : 2 ≤ 2 → id ≠ 2 := n2
        first | omega | (simp; omega)
  · rintro F h ⟨rfl, f0, f1, f7, f8, n1, n2, n3⟩
    simp (disch := first | omega | (simp only [List.length_append, List.length_cons, List.length_nil, length_hset, length_hkill]; omega)) only [↓fsPre, fsPost, fsCond, fsGen, npick, nbin, nun, nconv, nnilCheck, noff, nidxArr, nidxSl, nfield, npart, nindex, nextract, nlenSl, nlenStr, ncap, mmx, minmax2, nslice, nsliceArr, nbounds, obound, bound, adv, nbits, eqVal, eqCell, eqCells, nfill, lenOfSl, cls, fresults, fresl, fres1, gt_iff_lt, ge_iff_le, reduceCtorEq, Nat.reduceAdd, Nat.reduceMul, Nat.reduceSub, Nat.reduceLT, Nat.reduceLeDiff, Nat.reduceEqDiff, Nat.reduceBEq, Nat.reduceBNe, Int.reduceLT, Int.reduceLE, Int.reduceEq, Int.reduceNe, Int.reduceAdd, Int.reduceSub, Int.reduceNeg, Int.reduceToNat, Int.reduceMul, ↓reduceIte, Int.reduceGT, Int.reduceGE, f0, f1, f7, f8]
    unfold rix
    rw [if_neg (n1 (by omega)), if_neg (n2 (by omega)), if_neg (n3 (by omega))]

theorem crole_ok (H : Heap) (b : Nat) (q : Nat → Int) (id : Int) (z0 z1 z2 z3 z4 z5 z7 z8 z9 : NV) (r6 : RolesAt H b q) (ho : z0.one = true ∧ z1.one = true ∧ z2.one = true ∧ z3.one = true ∧ z4.one = true ∧ z5.one = true ∧ z7.one = true ∧ z8.one = true ∧ z9.one = true) :
    NCall Try.prog 38 [.agg [z0, z1, z2, z3, z4, z5, .slice (some (b, 0)) 3 (.fix 3), z7, z8, z9], .int .i64 id] H fun r => r = (.int .i64 (rix id), H) := by
  obtain ⟨o0, o1, o2, o3, o4, o5, o7, o8, o9⟩ := ho
  have hbl := r6.lt
  refine call_pure E0 mixed t38_ok (by kernel_rfl) trivial ?_
  simp only [t38]
  simp (disch := first | omega | (simp only [List.length_append, List.length_cons, List.length_nil, length_hset, length_hkill]; omega)) only [↓fsPre, fsPost, fsCond, fsGen, npick, nbin, nun, nconv, nnilCheck, noff, nidxArr, nidxSl, nfield, npart, nindex, nextract, nlenSl, nlenStr, ncap, mmx, minmax2, nslice, nsliceArr, nbounds, obound, bound, adv, nbits, eqVal, eqCell, eqCells, nfill, lenOfSl, cls, fresults, fresl, fres1, gt_iff_lt, ge_iff_le, reduceCtorEq, Nat.reduceAdd, Nat.reduceMul, Nat.reduceSub, Nat.reduceLT, Nat.reduceLeDiff, Nat.reduceEqDiff, Nat.reduceBEq, Nat.reduceBNe, Int.reduceLT, Int.reduceLE, Int.reduceEq, Int.reduceNe, Int.reduceAdd, Int.reduceSub, Int.reduceNeg, Int.reduceToNat, Int.reduceMul, ↓reduceIte, Int.reduceGT, Int.reduceGE, o0, o1, o2, o3, o4, o5, o7, o8, o9]
  refine callT_one (ixf_ok _ (H.length + 1) b q id (r6.mono (by simp (disch := first | omega | (simp only [List.length_append, List.length_cons, List.length_nil, length_hset, length_hkill]; omega)) only [↓fsPre, fsPost, fsCond, fsGen, npick, nbin, nun, nconv, nnilCheck, noff, nidxArr, nidxSl, nfield, npart, nindex, nextract, nlenSl, nlenStr, ncap, mmx, minmax2, nslice, nsliceArr, nbounds, obound, bound, adv, nbits, eqVal, eqCell, eqCells, nfill, lenOfSl, cls, fresults, fresl, fres1, gt_iff_lt, ge_iff_le, reduceCtorEq, Nat.reduceAdd, Nat.reduceMul, Nat.reduceSub, Nat.reduceLT, Nat.reduceLeDiff, Nat.reduceEqDiff, Nat.reduceBEq, Nat.reduceBNe, Int.reduceLT, Int.reduceLE, Int.reduceEq, Int.reduceNe, Int.reduceAdd, Int.reduceSub, Int.reduceNeg, Int.reduceToNat, Int.reduceMul, ↓reduceIte, Int.reduceGT, Int.reduceGE])) (by simp (disch := first | omega | (simp only [List.length_append, List.length_cons, List.length_nil, length_hset, length_hkill]; omega)) only [↓fsPre, fsPost, fsCond, fsGen, npick, nbin, nun, nconv, nnilCheck, noff, nidxArr, nidxSl, nfield, npart, nindex, nextract, nlenSl, nlenStr, ncap, mmx, minmax2, nslice, nsliceArr, nbounds, obound, bound, adv, nbits, eqVal, eqCell, eqCells, nfill, lenOfSl, cls, fresults, fresl, fres1, gt_iff_lt, ge_iff_le, reduceCtorEq, Nat.reduceAdd, Nat.reduceMul, Nat.reduceSub, Nat.reduceLT, Nat.reduceLeDiff, Nat.reduceEqDiff, Nat.reduceBEq, Nat.reduceBNe, Int.reduceLT, Int.reduceLE, Int.reduceEq, Int.reduceNe, Int.reduceAdd, Int.reduceSub, Int.reduceNeg, Int.reduceToNat, Int.reduceMul, ↓reduceIte, Int.reduceGT, Int.reduceGE])) rfl ?_
  simp (disch := first | omega | (simp only [List.length_append, List.length_cons, List.length_nil, length_hset, length_hkill]; omega)) only [↓fsPre, fsPost, fsCond, fsGen, npick, nbin, nun, nconv, nnilCheck, noff, nidxArr, nidxSl, nfield, npart, nindex, nextract, nlenSl, nlenStr, ncap, mmx, minmax2, nslice, nsliceArr, nbounds, obound, bound, adv, nbits, eqVal, eqCell, eqCells, nfill, lenOfSl, cls, fresults, fresl, fres1, gt_iff_lt, ge_iff_le, reduceCtorEq, Nat.reduceAdd, Nat.reduceMul, Nat.reduceSub, Nat.reduceLT, Nat.reduceLeDiff, Nat.reduceEqDiff, Nat.reduceBEq, Nat.reduceBNe, Int.reduceLT, Int.reduceLE, Int.reduceEq, Int.reduceNe, Int.reduceAdd, Int.reduceSub, Int.reduceNeg, Int.reduceToNat, Int.reduceMul, ↓reduceIte, Int.reduceGT, Int.reduceGE]
  exact ⟨_, rfl⟩

/-! ### What is read -/
def selP (role fr : Int) (x : Rec) : Bool := decide (fr ≤ x.num) && (decide (role = 1) || decide (x.role = role))
def selR (rs : List Rec) (role fr count : Int) : List Rec := (rs.filter (selP role fr)).take count.toNat
theorem selR_nil (role fr count : Int) : selR [] role fr count = [] := by simp [selR]
theorem selR_snoc (rs : List Rec) (x : Rec) (role fr count : Int) : selR (rs ++ [x]) role fr count = if (selR rs role fr count).length < count.toNat ∧ selP role fr x = true then selR rs role fr count ++ [x] else selR rs role fr count := by
  unfold selR
  rw [List.filter_append]
  by_cases h : selP role fr x = true
  · have e : [x].filter (selP role fr) = [x] := by simp [h]
    rw [e, List.take_append, List.length_take]
    by_cases h1 : (rs.filter (selP role fr)).length < count.toNat
    · rw [if_pos ⟨by omega, h⟩, List.take_of_length_le (l := rs.filter (selP role fr)) (by omega), List.take_of_length_le (l := [x]) (by simp only [List.length_cons, List.length_nil]; omega)]
    · rw [if_neg (by omega), show count.toNat - (rs.filter (selP role fr)).length = 0 by omega]; simp
  · have e : [x].filter (selP role fr) = [] := by simp [h]
    rw [e, List.append_nil, if_neg (by simp [h])]
theorem selR_le (rs : List Rec) (role fr count : Int) : (selR rs role fr count).length ≤ rs.length := by
  unfold selR
  rw [List.length_take]
  have := List.length_filter_le (selP role fr) rs
  omega
def recE (role fr count : Int) : Int := if rix role < 0 then 21 else if fr < 0 ∨ count < 0 ∨ 24 < count then 4 else 0
def recL (rs : List Rec) (role fr count : Int) : List Rec := if recE role fr count = 0 then selR rs role fr count else []

/-- Rows that lie somewhere. -/
def RowsIn (H : Heap) (v : NV) (rs : List Rec) : Prop := ∃ a c, v = .slice a rs.length c ∧ (0 < rs.length → ∃ b o cs ro, a = some (b, o) ∧ hget H b = some (.cells cs ro) ∧ ∀ i (hi : i < rs.length), cut cs (o + i * 7) 7 = some rs[i].cells)
theorem recs_cut (rs : List Rec) (i : Nat) (hi : i < rs.length) : cut (recs rs) (i * 7) 7 = some rs[i].cells := cut_flatMap Rec.cells_length hi
theorem RecsAt.rows {H : Heap} {v : NV} {rs : List Rec} (h : RecsAt H v rs) : RowsIn H v rs := by
  rcases h with ⟨rfl, rfl⟩ | ⟨b, rfl, hb⟩
  · exact ⟨none, .fix 0, rfl, by simp⟩
  · exact ⟨some (b, 0), .opn 7, rfl, fun _ => ⟨b, 0, _, _, rfl, hb, fun i hi => by rw [Nat.zero_add]; exact recs_cut rs i hi⟩⟩
theorem grc_recs {h : Heap} {N : Nat} {rs : List Rec} {v : NV} (g : GrC h N (recs rs) 7 v) : RecsFrom N h v rs := by
  rcases g with ⟨h1, rfl⟩ | ⟨b, k, rfl, h2, h3, h4, h5⟩
  · have : rs = [] := by
      have := congrArg List.length h1
      rw [recs_length] at this
      exact List.length_eq_zero_iff.1 (by simp at this; omega)
    exact .inl ⟨rfl, this⟩
  · rw [recs_length] at h4
    have : k = rs.length := by omega
    subst this
    exact .inr ⟨b, rfl, h2, h3⟩
theorem grc_len {h : Heap} {N : Nat} {rs : List Rec} {v : NV} (g : GrC h N (recs rs) 7 v) : ∃ a c, v = .slice a rs.length c := by
  rcases grc_recs g with ⟨rfl, rfl⟩ | ⟨b, rfl, _⟩
  · exact ⟨_, _, rfl⟩
  · exact ⟨_, _, rfl⟩
theorem RecsFrom.mono {n : Nat} {H h : Heap} {v : NV} {rs : List Rec} (r : RecsFrom n H v rs) (o : ∀ b, b < H.length → hget h b = hget H b) : RecsFrom n h v rs := by
  rcases r with r | ⟨b, h1, h2, h3⟩
  · exact .inl r
  · exact .inr ⟨b, h1, h2, by rw [o b (hget_lt h3)]; exact h3⟩
theorem RecsAt.one {H : Heap} {v : NV} {rs : List Rec} (r : RecsAt H v rs) : v.one = true := by
  rcases r with ⟨rfl, _⟩ | ⟨_, rfl, _⟩ <;> rfl
theorem RecsFrom.low {n m : Nat} {H : Heap} {v : NV} {rs : List Rec} (r : RecsFrom n H v rs) (h : m ≤ n) : RecsFrom m H v rs := by
  rcases r with r | ⟨b, h1, h2, h3⟩
  · exact .inl r
  · exact .inr ⟨b, h1, by omega, h3⟩

def recsQ (H : Heap) (rs : List Rec) (role fr count : Int) (r : NV × Heap) : Prop := ∃ w L, r = (.tup [w, .int .i64 (recE role fr count)], H ++ L) ∧ RecsFrom H.length (H ++ L) w (recL rs role fr count)

structure RcI (H : Heap) (lg : List NV) (zs : List NV) (b : Nat) (i role fr count : Int) (rs : List Rec) (a : Option (Nat × Nat)) (c : Cap) (j : Nat) (F : FF) (h : Heap) : Prop where
  f2 : F 2 = .int .i64 role
  f3 : F 3 = .int .i64 fr
  f4 : F 4 = .int .i64 count
  f5 : F 5 = .ptr (some (H.length, 0))
  f6 : F 6 = .ptr (some (H.length + 1, 0))
  f12 : F 12 = .int .i64 i
  f32 : F 32 = .slice a rs.length c
  f33 : F 33 = .int .i64 rs.length
  f34 : F 34 = .int .i64 j
  len : H.length + 2 ≤ h.length
  old : ∀ b, b < H.length → hget h b = hget H b
  b0 : hget h H.length = some (.cells lg false)
  b1 : hget h (H.length + 1) = some (.cells zs false)
  out : GrC h (H.length + 2) (recs (selR (rs.take j) role fr count)) 7 (F 13)

theorem keptnil_ok (H : Heap) : NCall Try.prog 14 [.agg [.slice none 0 (.fix 0)]] H fun q => q = (.slice none 0 (.fix 0), H) := by
  refine call_pure E0 mixed t14_ok (by kernel_rfl) trivial ?_
  simp only [t14]
  simp (disch := first | omega | (simp only [List.length_append, List.length_cons, List.length_nil, length_hset, length_hkill]; omega)) only [↓fsPre, fsPost, fsCond, fsGen, npick, nbin, nun, nconv, nnilCheck, noff, nidxArr, nidxSl, nfield, npart, nindex, nextract, nlenSl, nlenStr, ncap, mmx, minmax2, nslice, nsliceArr, nbounds, obound, bound, adv, nbits, eqVal, eqCell, eqCells, nfill, lenOfSl, cls, fresults, fresl, fres1, gt_iff_lt, ge_iff_le, reduceCtorEq, Nat.reduceAdd, Nat.reduceMul, Nat.reduceSub, Nat.reduceLT, Nat.reduceLeDiff, Nat.reduceEqDiff, Nat.reduceBEq, Nat.reduceBNe, Int.reduceLT, Int.reduceLE, Int.reduceEq, Int.reduceNe, Int.reduceAdd, Int.reduceSub, Int.reduceNeg, Int.reduceToNat, Int.reduceMul, ↓reduceIte, Int.reduceGT, Int.reduceGE]
  exact ⟨_, rfl⟩

set_option maxHeartbeats 1000000 in
theorem records_ok (H : Heap) (nx : Int) (sl : NV) (rs : List Rec) (b : Nat) (q : Nat → Int) (z0 z1 z2 z3 z4 z5 z7 z8 z9 : NV) (role fr count : Int) (sch : RSch H b q z0 z1 z2 z3 z4 z5 z7 z8 z9) (hs : RowsIn H sl rs) (hl : rs.length ≤ 24) :
    DCall Try.prog 26 [.agg [.int .i64 nx, sl], .agg [z0, z1, z2, z3, z4, z5, .slice (some (b, 0)) 3 (.fix 3), z7, z8, z9], .int .i64 role, .int .i64 fr, .int .i64 count] H (recsQ H rs role fr count) := by
  have ho : sl.one = true := by obtain ⟨_, _, rfl, _⟩ := hs; rfl
  have old : ∀ L b, b < H.length → hget (H ++ L) b = hget H b := fun L b hb => hget_appl hb
  have hr := fun L => crole_ok (H ++ L) b q role z0 z1 z2 z3 z4 z5 z7 z8 z9 (sch.2.2.2.2.2.2.1.mono (old L _ sch.2.2.2.2.2.2.1.lt)) sch.2.2.2.2.2.2.2
  obtain ⟨a, c, rfl, hrow⟩ := hs
  have hbl := sch.2.2.2.2.2.2.1.lt
  obtain ⟨o0, o1, o2, o3, o4, o5, o7, o8, o9⟩ := sch.2.2.2.2.2.2.2
  obtain ⟨s0, s1, s2, g0, a0, g1, a1, g2, a2, hb, p1, p2, p3, p4, p5, p6⟩ := sch.2.2.2.2.2.2.1
  refine call_det E0 rfl mixed t26_ok (by kernel_rfl) (by rintro q ⟨_, _, rfl, _⟩; simp) ?_
  simp only [t26]
  simp (disch := first | omega | (simp only [List.length_append, List.length_cons, List.length_nil, length_hset, length_hkill]; omega)) only [↓fsPre, fsPost, fsCond, fsGen, npick, nbin, nun, nconv, nnilCheck, noff, nidxArr, nidxSl, nfield, npart, nindex, nextract, nlenSl, nlenStr, ncap, mmx, minmax2, nslice, nsliceArr, nbounds, obound, bound, adv, nbits, eqVal, eqCell, eqCells, nfill, lenOfSl, cls, fresults, fresl, fres1, gt_iff_lt, ge_iff_le, reduceCtorEq, Nat.reduceAdd, Nat.reduceMul, Nat.reduceSub, Nat.reduceLT, Nat.reduceLeDiff, Nat.reduceEqDiff, Nat.reduceBEq, Nat.reduceBNe, Int.reduceLT, Int.reduceLE, Int.reduceEq, Int.reduceNe, Int.reduceAdd, Int.reduceSub, Int.reduceNeg, Int.reduceToNat, Int.reduceMul, ↓reduceIte, Int.reduceGT, Int.reduceGE, ho, o0, o1, o2, o3, o4, o5, o7, o8, o9]
  refine callT_one (hr _) rfl ?_
  have hir : rix role = -1 ∨ (0 ≤ rix role ∧ rix role < 3) := by rcases rix_cases role with e | e | e | e <;> omega
  rcases hir with hneg | ⟨hi0, hi3⟩
  · rw [hneg]
    simp (disch := first | omega | (simp only [List.length_append, List.length_cons, List.length_nil, length_hset, length_hkill]; omega)) only [↓fsPre, fsPost, fsCond, fsGen, npick, nbin, nun, nconv, nnilCheck, noff, nidxArr, nidxSl, nfield, npart, nindex, nextract, nlenSl, nlenStr, ncap, mmx, minmax2, nslice, nsliceArr, nbounds, obound, bound, adv, nbits, eqVal, eqCell, eqCells, nfill, lenOfSl, cls, fresults, fresl, fres1, gt_iff_lt, ge_iff_le, reduceCtorEq, Nat.reduceAdd, Nat.reduceMul, Nat.reduceSub, Nat.reduceLT, Nat.reduceLeDiff, Nat.reduceEqDiff, Nat.reduceBEq, Nat.reduceBNe, Int.reduceLT, Int.reduceLE, Int.reduceEq, Int.reduceNe, Int.reduceAdd, Int.reduceSub, Int.reduceNeg, Int.reduceToNat, Int.reduceMul, ↓reduceIte, Int.reduceGT, Int.reduceGE]
    have he : recE role fr count = 21 := by unfold recE; rw [if_pos (by omega)]
    refine ⟨_, _, by rw [he], .inl ⟨rfl, ?_⟩⟩
    unfold recL; rw [if_neg (by omega)]
  have hi1 : decide (rix role = 0) = decide (role = 1) := by
    rw [decide_eq_decide]
    unfold rix
    split
    · omega
    · split
      · omega
      · split <;> omega
  have hneg : ¬ rix role < 0 := by omega
  have hld : ([.int .i64 1, .str s0, g0, a0, .int .i64 (q 0), .bool true, .int .i64 2, .str s1, g1, a1, .int .i64 (q 1), .bool false, .int .i64 7, .str s2, g2, a2, .int .i64 (q 2), .bool false] : List NV)[(rix role).toNat * 6 + 5]? = some (.bool (decide (rix role = 0))) := by
    have : rix role = 0 ∨ rix role = 1 ∨ rix role = 2 := by omega
    rcases this with e | e | e <;> rw [e] <;> rfl
  by_cases hbad : fr < 0 ∨ count < 0 ∨ 24 < count
  · have he : recE role fr count = 4 := by unfold recE; rw [if_neg hneg, if_pos hbad]
    have hL : recL rs role fr count = [] := by unfold recL; rw [if_neg (by omega)]
    by_cases k1 : fr < 0
    · simp (disch := first | omega | (simp only [List.length_append, List.length_cons, List.length_nil, length_hset, length_hkill]; omega)) only [↓fsPre, fsPost, fsCond, fsGen, npick, nbin, nun, nconv, nnilCheck, noff, nidxArr, nidxSl, nfield, npart, nindex, nextract, nlenSl, nlenStr, ncap, mmx, minmax2, nslice, nsliceArr, nbounds, obound, bound, adv, nbits, eqVal, eqCell, eqCells, nfill, lenOfSl, cls, fresults, fresl, fres1, gt_iff_lt, ge_iff_le, reduceCtorEq, Nat.reduceAdd, Nat.reduceMul, Nat.reduceSub, Nat.reduceLT, Nat.reduceLeDiff, Nat.reduceEqDiff, Nat.reduceBEq, Nat.reduceBNe, Int.reduceLT, Int.reduceLE, Int.reduceEq, Int.reduceNe, Int.reduceAdd, Int.reduceSub, Int.reduceNeg, Int.reduceToNat, Int.reduceMul, ↓reduceIte, Int.reduceGT, Int.reduceGE, hneg, decide_eq_true k1, nbool_undef, guardK_none]
      exact ⟨_, _, by rw [he], .inl ⟨rfl, hL⟩⟩
    · by_cases k2 : count < 0
      · simp (disch := first | omega | (simp only [List.length_append, List.length_cons, List.length_nil, length_hset, length_hkill]; omega)) only [↓fsPre, fsPost, fsCond, fsGen, npick, nbin, nun, nconv, nnilCheck, noff, nidxArr, nidxSl, nfield, npart, nindex, nextract, nlenSl, nlenStr, ncap, mmx, minmax2, nslice, nsliceArr, nbounds, obound, bound, adv, nbits, eqVal, eqCell, eqCells, nfill, lenOfSl, cls, fresults, fresl, fres1, gt_iff_lt, ge_iff_le, reduceCtorEq, Nat.reduceAdd, Nat.reduceMul, Nat.reduceSub, Nat.reduceLT, Nat.reduceLeDiff, Nat.reduceEqDiff, Nat.reduceBEq, Nat.reduceBNe, Int.reduceLT, Int.reduceLE, Int.reduceEq, Int.reduceNe, Int.reduceAdd, Int.reduceSub, Int.reduceNeg, Int.reduceToNat, Int.reduceMul, ↓reduceIte, Int.reduceGT, Int.reduceGE, hneg, decide_eq_false k1, decide_eq_true k2, nbool_undef, guardK_none]
        exact ⟨_, _, by rw [he], .inl ⟨rfl, hL⟩⟩
      · have k3 : 24 < count := by omega
        simp (disch := first | omega | (simp only [List.length_append, List.length_cons, List.length_nil, length_hset, length_hkill]; omega)) only [↓fsPre, fsPost, fsCond, fsGen, npick, nbin, nun, nconv, nnilCheck, noff, nidxArr, nidxSl, nfield, npart, nindex, nextract, nlenSl, nlenStr, ncap, mmx, minmax2, nslice, nsliceArr, nbounds, obound, bound, adv, nbits, eqVal, eqCell, eqCells, nfill, lenOfSl, cls, fresults, fresl, fres1, gt_iff_lt, ge_iff_le, reduceCtorEq, Nat.reduceAdd, Nat.reduceMul, Nat.reduceSub, Nat.reduceLT, Nat.reduceLeDiff, Nat.reduceEqDiff, Nat.reduceBEq, Nat.reduceBNe, Int.reduceLT, Int.reduceLE, Int.reduceEq, Int.reduceNe, Int.reduceAdd, Int.reduceSub, Int.reduceNeg, Int.reduceToNat, Int.reduceMul, ↓reduceIte, Int.reduceGT, Int.reduceGE, hneg, decide_eq_false k1, decide_eq_false k2, decide_eq_true k3, nbool_undef, guardK_none]
        exact ⟨_, _, by rw [he], .inl ⟨rfl, hL⟩⟩
  have he : recE role fr count = 0 := by unfold recE; rw [if_neg hneg, if_neg hbad]
  have k1 : ¬ fr < 0 := by omega
  have k2 : ¬ count < 0 := by omega
  have k3 : ¬ 24 < count := by omega
  unfold recsQ
  rw [he]
  generalize rix role = i at *
  simp (disch := first | omega | (simp only [List.length_append, List.length_cons, List.length_nil, length_hset, length_hkill]; omega)) only [↓fsPre, fsPost, fsCond, fsGen, npick, nbin, nun, nconv, nnilCheck, noff, nidxArr, nidxSl, nfield, npart, nindex, nextract, nlenSl, nlenStr, ncap, mmx, minmax2, nslice, nsliceArr, nbounds, obound, bound, adv, nbits, eqVal, eqCell, eqCells, nfill, lenOfSl, cls, fresults, fresl, fres1, gt_iff_lt, ge_iff_le, reduceCtorEq, Nat.reduceAdd, Nat.reduceMul, Nat.reduceSub, Nat.reduceLT, Nat.reduceLeDiff, Nat.reduceEqDiff, Nat.reduceBEq, Nat.reduceBNe, Int.reduceLT, Int.reduceLE, Int.reduceEq, Int.reduceNe, Int.reduceAdd, Int.reduceSub, Int.reduceNeg, Int.reduceToNat, Int.reduceMul, ↓reduceIte, Int.reduceGT, Int.reduceGE, hneg, decide_eq_false k1, decide_eq_false k2, decide_eq_false k3]
  refine wloop (RcI H [.int .i64 nx, .slice a rs.length c] [z0, z1, z2, z3, z4, z5, .slice (some (b, 0)) 3 (.fix 3), z7, z8, z9] b i role fr count rs a c) rs.length ?_ ?_ ?_
  · constructor <;> (try simp (disch := first | omega | (simp only [List.length_append, List.length_cons, List.length_nil, length_hset, length_hkill]; omega)) only [↓fsPre, fsPost, fsCond, fsGen, npick, nbin, nun, nconv, nnilCheck, noff, nidxArr, nidxSl, nfield, npart, nindex, nextract, nlenSl, nlenStr, ncap, mmx, minmax2, nslice, nsliceArr, nbounds, obound, bound, adv, nbits, eqVal, eqCell, eqCells, nfill, lenOfSl, cls, fresults, fresl, fres1, gt_iff_lt, ge_iff_le, reduceCtorEq, Nat.reduceAdd, Nat.reduceMul, Nat.reduceSub, Nat.reduceLT, Nat.reduceLeDiff, Nat.reduceEqDiff, Nat.reduceBEq, Nat.reduceBNe, Int.reduceLT, Int.reduceLE, Int.reduceEq, Int.reduceNe, Int.reduceAdd, Int.reduceSub, Int.reduceNeg, Int.reduceToNat, Int.reduceMul, ↓reduceIte, Int.reduceGT, Int.reduceGE])
    · exact fun b hb => hget_appl hb
    · rw [selR_nil]; exact .nil
  · rintro j F h hj ⟨f2, f3, f4, f5, f6, f12, f32, f33, f34, len, old, b0, b1, out⟩
    obtain ⟨B, o, cs, ro, rfl, hB, hcs⟩ := hrow (by omega)
    have hBl := hget_some_lt hB
    have hB' : hget h B = some (.cells cs ro) := by rw [old B hBl]; exact hB
    have hcj := hcs j hj
    have hb' : hget h b = _ := (old b hbl).trans hb
    obtain ⟨oa, oc, hw⟩   := grc_len out
    have ow := out.one
    have hsl : (selR (rs.take j) role fr count).length ≤ 24 := by
      have := selR_le (rs.take j) role fr count
      rw [List.length_take] at this; omega
    have hstep := selR_snoc (rs.take j) rs[j] role fr count
    have htk : rs.take (j + 1) = rs.take j ++ [rs[j]] := by rw [List.take_add_one, List.getElem?_eq_getElem hj]; rfl
    rw [← htk] at hstep
    generalize rs[j] = x at *
    generalize hS : selR (rs.take j) role fr count = S at *
    generalize hv13 : F 13 = v13 at *
    have keep : ¬ (S.length < count.toNat ∧ selP role fr x = true) → selR (rs.take (j + 1)) role fr count = S := fun h => by rw [hstep, if_neg h]
    have add : (S.length < count.toNat ∧ selP role fr x = true) → selR (rs.take (j + 1)) role fr count = S ++ [x] := fun h => by rw [hstep, if_pos h]
    clear hstep
    have done : ∀ (F' : FF) (h' : Heap), F' 2 = F 2 → F' 3 = F 3 → F' 4 = F 4 → F' 5 = F 5 → F' 6 = F 6 → F' 12 = F 12 → F' 32 = F 32 → F' 33 = F 33 → F' 34 = .int .i64 (j + 1 : Nat) → H.length + 2 ≤ h'.length → (∀ b, b < H.length + 2 → hget h' b = hget h b) →
        GrC h' (H.length + 2) (recs (selR (rs.take (j + 1)) role fr count)) 7 (F' 13) → RcI H [.int .i64 nx, .slice (some (B, o)) rs.length c] [z0, z1, z2, z3, z4, z5, .slice (some (b, 0)) 3 (.fix 3), z7, z8, z9] b i role fr count rs (some (B, o)) c (j + 1) F' h' :=
      fun F' h' e2 e3 e4 e5 e6 e12 e32 e33 e34 hl ho hg => ⟨e2.trans f2, e3.trans f3, e4.trans f4, e5.trans f5, e6.trans f6, e12.trans f12, e32.trans f32, e33.trans f33, e34, hl, fun b hb => (ho b (by omega)).trans (old b hb), (ho _ (by omega)).trans b0, (ho _ (by omega)).trans b1, hg⟩
    by_cases h1 : (S.length : Int) < count
    · by_cases h2 : fr ≤ x.num
      · by_cases h3 : (decide (i = 0) = true ∨ x.role = role)
        · have hp : selP role fr x = true := by
            unfold selP
            rw [decide_eq_true h2, Bool.true_and, Bool.or_eq_true]
            rcases h3 with h3 | h3
            · left; rw [hi1] at h3; exact h3
            · right; exact decide_eq_true h3
          have hA := add ⟨by omega, hp⟩
          have fin : ∀ u, decide (i = 0) = u → (u = false → decide (x.role = role) = true) → True := fun _ _ _ => trivial
          clear fin
          cases hu : decide (i = 0) with
          | true =>
            rw [hu] at hld
            simp (disch := first | omega | (simp only [List.length_append, List.length_cons, List.length_nil, length_hset, length_hkill]; omega)) only [↓fsPre, fsPost, fsCond, fsGen, npick, nbin, nun, nconv, nnilCheck, noff, nidxArr, nidxSl, nfield, npart, nindex, nextract, nlenSl, nlenStr, ncap, mmx, minmax2, nslice, nsliceArr, nbounds, obound, bound, adv, nbits, eqVal, eqCell, eqCells, nfill, lenOfSl, cls, fresults, fresl, fres1, gt_iff_lt, ge_iff_le, reduceCtorEq, Nat.reduceAdd, Nat.reduceMul, Nat.reduceSub, Nat.reduceLT, Nat.reduceLeDiff, Nat.reduceEqDiff, Nat.reduceBEq, Nat.reduceBNe, Int.reduceLT, Int.reduceLE, Int.reduceEq, Int.reduceNe, Int.reduceAdd, Int.reduceSub, Int.reduceNeg, Int.reduceToNat, Int.reduceMul, ↓reduceIte, Int.reduceGT, Int.reduceGE, f2, f3, f4, f5, f6, f12, f32, f33, f34, hv13, hw, hB', hcj, Rec.cells, b0, b1, hb', hld, decide_eq_true h1, decide_eq_true h2]
            refine grc_app (N := H.length + 2) (by rw [← hw]; exact out.ext Ext.app) (by simp only [List.length_append]; omega) (sliceCells_at (by simp (disch := first | omega | (simp only [List.length_append, List.length_cons, List.length_nil, length_hset, length_hkill]; omega)) only [↓fsPre, fsPost, fsCond, fsGen, npick, nbin, nun, nconv, nnilCheck, noff, nidxArr, nidxSl, nfield, npart, nindex, nextract, nlenSl, nlenStr, ncap, mmx, minmax2, nslice, nsliceArr, nbounds, obound, bound, adv, nbits, eqVal, eqCell, eqCells, nfill, lenOfSl, cls, fresults, fresl, fres1, gt_iff_lt, ge_iff_le, reduceCtorEq, Nat.reduceAdd, Nat.reduceMul, Nat.reduceSub, Nat.reduceLT, Nat.reduceLeDiff, Nat.reduceEqDiff, Nat.reduceBEq, Nat.reduceBNe, Int.reduceLT, Int.reduceLE, Int.reduceEq, Int.reduceNe, Int.reduceAdd, Int.reduceSub, Int.reduceNeg, Int.reduceToNat, Int.reduceMul, ↓reduceIte, Int.reduceGT, Int.reduceGE] <;> rfl) rfl) rfl (by omega) (by omega) rfl (by rw [recs_length]; omega) (by omega) (by omega) ?_
            intro v' h' hg' hl' ho'
            simp (disch := first | omega | (simp only [List.length_append, List.length_cons, List.length_nil, length_hset, length_hkill]; omega)) only [↓fsPre, fsPost, fsCond, fsGen, npick, nbin, nun, nconv, nnilCheck, noff, nidxArr, nidxSl, nfield, npart, nindex, nextract, nlenSl, nlenStr, ncap, mmx, minmax2, nslice, nsliceArr, nbounds, obound, bound, adv, nbits, eqVal, eqCell, eqCells, nfill, lenOfSl, cls, fresults, fresl, fres1, gt_iff_lt, ge_iff_le, reduceCtorEq, Nat.reduceAdd, Nat.reduceMul, Nat.reduceSub, Nat.reduceLT, Nat.reduceLeDiff, Nat.reduceEqDiff, Nat.reduceBEq, Nat.reduceBNe, Int.reduceLT, Int.reduceLE, Int.reduceEq, Int.reduceNe, Int.reduceAdd, Int.reduceSub, Int.reduceNeg, Int.reduceToNat, Int.reduceMul, ↓reduceIte, Int.reduceGT, Int.reduceGE, f34]
            refine done _ _ ?_ ?_ ?_ ?_ ?_ ?_ ?_ ?_ ?_ ?_ ?_ ?_ <;> (try simp (disch := first | omega | (simp only [List.length_append, List.length_cons, List.length_nil, length_hset, length_hkill]; omega)) only [↓fsPre, fsPost, fsCond, fsGen, npick, nbin, nun, nconv, nnilCheck, noff, nidxArr, nidxSl, nfield, npart, nindex, nextract, nlenSl, nlenStr, ncap, mmx, minmax2, nslice, nsliceArr, nbounds, obound, bound, adv, nbits, eqVal, eqCell, eqCells, nfill, lenOfSl, cls, fresults, fresl, fres1, gt_iff_lt, ge_iff_le, reduceCtorEq, Nat.reduceAdd, Nat.reduceMul, Nat.reduceSub, Nat.reduceLT, Nat.reduceLeDiff, Nat.reduceEqDiff, Nat.reduceBEq, Nat.reduceBNe, Int.reduceLT, Int.reduceLE, Int.reduceEq, Int.reduceNe, Int.reduceAdd, Int.reduceSub, Int.reduceNeg, Int.reduceToNat, Int.reduceMul, ↓reduceIte, Int.reduceGT, Int.reduceGE, f34])
            · simp only [List.length_append, List.length_cons, List.length_nil] at hl'; omega
            · intro b hb
              rw [ho' b hb]; simp (disch := first | omega | (simp only [List.length_append, List.length_cons, List.length_nil, length_hset, length_hkill]; omega)) only [↓fsPre, fsPost, fsCond, fsGen, npick, nbin, nun, nconv, nnilCheck, noff, nidxArr, nidxSl, nfield, npart, nindex, nextract, nlenSl, nlenStr, ncap, mmx, minmax2, nslice, nsliceArr, nbounds, obound, bound, adv, nbits, eqVal, eqCell, eqCells, nfill, lenOfSl, cls, fresults, fresl, fres1, gt_iff_lt, ge_iff_le, reduceCtorEq, Nat.reduceAdd, Nat.reduceMul, Nat.reduceSub, Nat.reduceLT, Nat.reduceLeDiff, Nat.reduceEqDiff, Nat.reduceBEq, Nat.reduceBNe, Int.reduceLT, Int.reduceLE, Int.reduceEq, Int.reduceNe, Int.reduceAdd, Int.reduceSub, Int.reduceNeg, Int.reduceToNat, Int.reduceMul, ↓reduceIte, Int.reduceGT, Int.reduceGE]
            · rw [hA, recs_append]; exact hg'
          | false =>
            rw [hu] at hld
            have h4 : x.role = role := by
              rcases h3 with h3 | h3
              · rw [hu] at h3; cases h3
              · exact h3
            simp (disch := first | omega | (simp only [List.length_append, List.length_cons, List.length_nil, length_hset, length_hkill]; omega)) only [↓fsPre, fsPost, fsCond, fsGen, npick, nbin, nun, nconv, nnilCheck, noff, nidxArr, nidxSl, nfield, npart, nindex, nextract, nlenSl, nlenStr, ncap, mmx, minmax2, nslice, nsliceArr, nbounds, obound, bound, adv, nbits, eqVal, eqCell, eqCells, nfill, lenOfSl, cls, fresults, fresl, fres1, gt_iff_lt, ge_iff_le, reduceCtorEq, Nat.reduceAdd, Nat.reduceMul, Nat.reduceSub, Nat.reduceLT, Nat.reduceLeDiff, Nat.reduceEqDiff, Nat.reduceBEq, Nat.reduceBNe, Int.reduceLT, Int.reduceLE, Int.reduceEq, Int.reduceNe, Int.reduceAdd, Int.reduceSub, Int.reduceNeg, Int.reduceToNat, Int.reduceMul, ↓reduceIte, Int.reduceGT, Int.reduceGE, f2, f3, f4, f5, f6, f12, f32, f33, f34, hv13, hw, hB', hcj, Rec.cells, b0, b1, hb', hld, decide_eq_true h1, decide_eq_true h2, decide_eq_true h4]
            refine grc_app (N := H.length + 2) (by rw [← hw]; exact out.ext Ext.app) (by simp only [List.length_append]; omega) (sliceCells_at (by simp (disch := first | omega | (simp only [List.length_append, List.length_cons, List.length_nil, length_hset, length_hkill]; omega)) only [↓fsPre, fsPost, fsCond, fsGen, npick, nbin, nun, nconv, nnilCheck, noff, nidxArr, nidxSl, nfield, npart, nindex, nextract, nlenSl, nlenStr, ncap, mmx, minmax2, nslice, nsliceArr, nbounds, obound, bound, adv, nbits, eqVal, eqCell, eqCells, nfill, lenOfSl, cls, fresults, fresl, fres1, gt_iff_lt, ge_iff_le, reduceCtorEq, Nat.reduceAdd, Nat.reduceMul, Nat.reduceSub, Nat.reduceLT, Nat.reduceLeDiff, Nat.reduceEqDiff, Nat.reduceBEq, Nat.reduceBNe, Int.reduceLT, Int.reduceLE, Int.reduceEq, Int.reduceNe, Int.reduceAdd, Int.reduceSub, Int.reduceNeg, Int.reduceToNat, Int.reduceMul, ↓reduceIte, Int.reduceGT, Int.reduceGE] <;> rfl) rfl) rfl (by omega) (by omega) rfl (by rw [recs_length]; omega) (by omega) (by omega) ?_
            intro v' h' hg' hl' ho'
            simp (disch := first | omega | (simp only [List.length_append, List.length_cons, List.length_nil, length_hset, length_hkill]; omega)) only [↓fsPre, fsPost, fsCond, fsGen, npick, nbin, nun, nconv, nnilCheck, noff, nidxArr, nidxSl, nfield, npart, nindex, nextract, nlenSl, nlenStr, ncap, mmx, minmax2, nslice, nsliceArr, nbounds, obound, bound, adv, nbits, eqVal, eqCell, eqCells, nfill, lenOfSl, cls, fresults, fresl, fres1, gt_iff_lt, ge_iff_le, reduceCtorEq, Nat.reduceAdd, Nat.reduceMul, Nat.reduceSub, Nat.reduceLT, Nat.reduceLeDiff, Nat.reduceEqDiff, Nat.reduceBEq, Nat.reduceBNe, Int.reduceLT, Int.reduceLE, Int.reduceEq, Int.reduceNe, Int.reduceAdd, Int.reduceSub, Int.reduceNeg, Int.reduceToNat, Int.reduceMul, ↓reduceIte, Int.reduceGT, Int.reduceGE, f34]
            refine done _ _ ?_ ?_ ?_ ?_ ?_ ?_ ?_ ?_ ?_ ?_ ?_ ?_ <;> (try simp (disch := first | omega | (simp only [List.length_append, List.length_cons, List.length_nil, length_hset, length_hkill]; omega)) only [↓fsPre, fsPost, fsCond, fsGen, npick, nbin, nun, nconv, nnilCheck, noff, nidxArr, nidxSl, nfield, npart, nindex, nextract, nlenSl, nlenStr, ncap, mmx, minmax2, nslice, nsliceArr, nbounds, obound, bound, adv, nbits, eqVal, eqCell, eqCells, nfill, lenOfSl, cls, fresults, fresl, fres1, gt_iff_lt, ge_iff_le, reduceCtorEq, Nat.reduceAdd, Nat.reduceMul, Nat.reduceSub, Nat.reduceLT, Nat.reduceLeDiff, Nat.reduceEqDiff, Nat.reduceBEq, Nat.reduceBNe, Int.reduceLT, Int.reduceLE, Int.reduceEq, Int.reduceNe, Int.reduceAdd, Int.reduceSub, Int.reduceNeg, Int.reduceToNat, Int.reduceMul, ↓reduceIte, Int.reduceGT, Int.reduceGE, f34])
            · simp only [List.length_append, List.length_cons, List.length_nil] at hl'; omega
            · intro b hb
              rw [ho' b hb]; simp (disch := first | omega | (simp only [List.length_append, List.length_cons, List.length_nil, length_hset, length_hkill]; omega)) only [↓fsPre, fsPost, fsCond, fsGen, npick, nbin, nun, nconv, nnilCheck, noff, nidxArr, nidxSl, nfield, npart, nindex, nextract, nlenSl, nlenStr, ncap, mmx, minmax2, nslice, nsliceArr, nbounds, obound, bound, adv, nbits, eqVal, eqCell, eqCells, nfill, lenOfSl, cls, fresults, fresl, fres1, gt_iff_lt, ge_iff_le, reduceCtorEq, Nat.reduceAdd, Nat.reduceMul, Nat.reduceSub, Nat.reduceLT, Nat.reduceLeDiff, Nat.reduceEqDiff, Nat.reduceBEq, Nat.reduceBNe, Int.reduceLT, Int.reduceLE, Int.reduceEq, Int.reduceNe, Int.reduceAdd, Int.reduceSub, Int.reduceNeg, Int.reduceToNat, Int.reduceMul, ↓reduceIte, Int.reduceGT, Int.reduceGE]
            · rw [hA, recs_append]; exact hg'
        · have hu : decide (i = 0) = false := by
            cases hu : decide (i = 0) with
            | true => exact absurd (.inl hu) h3
            | false => rfl
          have h4 : ¬ x.role = role := fun e => h3 (.inr e)
          rw [hu] at hld
          have hK := keep (by
            rintro ⟨_, hp⟩
            unfold selP at hp
            rw [Bool.and_eq_true, Bool.or_eq_true] at hp
            rcases hp.2 with hp | hp
            · rw [← hi1, hu] at hp; cases hp
            · exact h4 (of_decide_eq_true hp))
          simp (disch := first | omega | (simp only [List.length_append, List.length_cons, List.length_nil, length_hset, length_hkill]; omega)) only [↓fsPre, fsPost, fsCond, fsGen, npick, nbin, nun, nconv, nnilCheck, noff, nidxArr, nidxSl, nfield, npart, nindex, nextract, nlenSl, nlenStr, ncap, mmx, minmax2, nslice, nsliceArr, nbounds, obound, bound, adv, nbits, eqVal, eqCell, eqCells, nfill, lenOfSl, cls, fresults, fresl, fres1, gt_iff_lt, ge_iff_le, reduceCtorEq, Nat.reduceAdd, Nat.reduceMul, Nat.reduceSub, Nat.reduceLT, Nat.reduceLeDiff, Nat.reduceEqDiff, Nat.reduceBEq, Nat.reduceBNe, Int.reduceLT, Int.reduceLE, Int.reduceEq, Int.reduceNe, Int.reduceAdd, Int.reduceSub, Int.reduceNeg, Int.reduceToNat, Int.reduceMul, ↓reduceIte, Int.reduceGT, Int.reduceGE, f2, f3, f4, f5, f6, f12, f32, f33, f34, hv13, hw, hB', hcj, Rec.cells, b0, b1, hb', hld, decide_eq_true h1, decide_eq_true h2, decide_eq_false h4]
          refine done _ _ ?_ ?_ ?_ ?_ ?_ ?_ ?_ ?_ ?_ ?_ ?_ ?_ <;> (try simp (disch := first | omega | (simp only [List.length_append, List.length_cons, List.length_nil, length_hset, length_hkill]; omega)) only [↓fsPre, fsPost, fsCond, fsGen, npick, nbin, nun, nconv, nnilCheck, noff, nidxArr, nidxSl, nfield, npart, nindex, nextract, nlenSl, nlenStr, ncap, mmx, minmax2, nslice, nsliceArr, nbounds, obound, bound, adv, nbits, eqVal, eqCell, eqCells, nfill, lenOfSl, cls, fresults, fresl, fres1, gt_iff_lt, ge_iff_le, reduceCtorEq, Nat.reduceAdd, Nat.reduceMul, Nat.reduceSub, Nat.reduceLT, Nat.reduceLeDiff, Nat.reduceEqDiff, Nat.reduceBEq, Nat.reduceBNe, Int.reduceLT, Int.reduceLE, Int.reduceEq, Int.reduceNe, Int.reduceAdd, Int.reduceSub, Int.reduceNeg, Int.reduceToNat, Int.reduceMul, ↓reduceIte, Int.reduceGT, Int.reduceGE, f34])
          · omega
          · intro b hb
            simp (disch := first | omega | (simp only [List.length_append, List.length_cons, List.length_nil, length_hset, length_hkill]; omega)) only [↓fsPre, fsPost, fsCond, fsGen, npick, nbin, nun, nconv, nnilCheck, noff, nidxArr, nidxSl, nfield, npart, nindex, nextract, nlenSl, nlenStr, ncap, mmx, minmax2, nslice, nsliceArr, nbounds, obound, bound, adv, nbits, eqVal, eqCell, eqCells, nfill, lenOfSl, cls, fresults, fresl, fres1, gt_iff_lt, ge_iff_le, reduceCtorEq, Nat.reduceAdd, Nat.reduceMul, Nat.reduceSub, Nat.reduceLT, Nat.reduceLeDiff, Nat.reduceEqDiff, Nat.reduceBEq, Nat.reduceBNe, Int.reduceLT, Int.reduceLE, Int.reduceEq, Int.reduceNe, Int.reduceAdd, Int.reduceSub, Int.reduceNeg, Int.reduceToNat, Int.reduceMul, ↓reduceIte, Int.reduceGT, Int.reduceGE]
          · rw [hK]; first | (rw [hv13]; exact out.ext Ext.app) | (rw [hv13, ← hw]; exact out.ext Ext.app) | (rw [← hw]; exact out.ext Ext.app)
      · have hK := keep (by
          rintro ⟨_, hp⟩
          unfold selP at hp
          rw [Bool.and_eq_true] at hp
          exact h2 (of_decide_eq_true hp.1))
        simp (disch := first | omega | (simp only [List.length_append, List.length_cons, List.length_nil, length_hset, length_hkill]; omega)) only [↓fsPre, fsPost, fsCond, fsGen, npick, nbin, nun, nconv, nnilCheck, noff, nidxArr, nidxSl, nfield, npart, nindex, nextract, nlenSl, nlenStr, ncap, mmx, minmax2, nslice, nsliceArr, nbounds, obound, bound, adv, nbits, eqVal, eqCell, eqCells, nfill, lenOfSl, cls, fresults, fresl, fres1, gt_iff_lt, ge_iff_le, reduceCtorEq, Nat.reduceAdd, Nat.reduceMul, Nat.reduceSub, Nat.reduceLT, Nat.reduceLeDiff, Nat.reduceEqDiff, Nat.reduceBEq, Nat.reduceBNe, Int.reduceLT, Int.reduceLE, Int.reduceEq, Int.reduceNe, Int.reduceAdd, Int.reduceSub, Int.reduceNeg, Int.reduceToNat, Int.reduceMul, ↓reduceIte, Int.reduceGT, Int.reduceGE, f2, f3, f4, f5, f6, f12, f32, f33, f34, hv13, hw, hB', hcj, Rec.cells, b0, b1, hb', decide_eq_true h1, decide_eq_false h2, nbool_undef, guardK_none]
        refine done _ _ ?_ ?_ ?_ ?_ ?_ ?_ ?_ ?_ ?_ ?_ ?_ ?_ <;> (try simp (disch := first | omega | (simp only [List.length_append, List.length_cons, List.length_nil, length_hset, length_hkill]; omega)) only [↓fsPre, fsPost, fsCond, fsGen, npick, nbin, nun, nconv, nnilCheck, noff, nidxArr, nidxSl, nfield, npart, nindex, nextract, nlenSl, nlenStr, ncap, mmx, minmax2, nslice, nsliceArr, nbounds, obound, bound, adv, nbits, eqVal, eqCell, eqCells, nfill, lenOfSl, cls, fresults, fresl, fres1, gt_iff_lt, ge_iff_le, reduceCtorEq, Nat.reduceAdd, Nat.reduceMul, Nat.reduceSub, Nat.reduceLT, Nat.reduceLeDiff, Nat.reduceEqDiff, Nat.reduceBEq, Nat.reduceBNe, Int.reduceLT, Int.reduceLE, Int.reduceEq, Int.reduceNe, Int.reduceAdd, Int.reduceSub, Int.reduceNeg, Int.reduceToNat, Int.reduceMul, ↓reduceIte, Int.reduceGT, Int.reduceGE, f34])
        · omega
        · intro b hb
          simp (disch := first | omega | (simp only [List.length_append, List.length_cons, List.length_nil, length_hset, length_hkill]; omega)) only [↓fsPre, fsPost, fsCond, fsGen, npick, nbin, nun, nconv, nnilCheck, noff, nidxArr, nidxSl, nfield, npart, nindex, nextract, nlenSl, nlenStr, ncap, mmx, minmax2, nslice, nsliceArr, nbounds, obound, bound, adv, nbits, eqVal, eqCell, eqCells, nfill, lenOfSl, cls, fresults, fresl, fres1, gt_iff_lt, ge_iff_le, reduceCtorEq, Nat.reduceAdd, Nat.reduceMul, Nat.reduceSub, Nat.reduceLT, Nat.reduceLeDiff, Nat.reduceEqDiff, Nat.reduceBEq, Nat.reduceBNe, Int.reduceLT, Int.reduceLE, Int.reduceEq, Int.reduceNe, Int.reduceAdd, Int.reduceSub, Int.reduceNeg, Int.reduceToNat, Int.reduceMul, ↓reduceIte, Int.reduceGT, Int.reduceGE]
        · rw [hK]; first | (rw [hv13]; exact out.ext Ext.app) | (rw [hv13, ← hw]; exact out.ext Ext.app) | (rw [← hw]; exact out.ext Ext.app)
    · have hK := keep (by rintro ⟨h, _⟩; omega)
      simp (disch := first | omega | (simp only [List.length_append, List.length_cons, List.length_nil, length_hset, length_hkill]; omega)) only [↓fsPre, fsPost, fsCond, fsGen, npick, nbin, nun, nconv, nnilCheck, noff, nidxArr, nidxSl, nfield, npart, nindex, nextract, nlenSl, nlenStr, ncap, mmx, minmax2, nslice, nsliceArr, nbounds, obound, bound, adv, nbits, eqVal, eqCell, eqCells, nfill, lenOfSl, cls, fresults, fresl, fres1, gt_iff_lt, ge_iff_le, reduceCtorEq, Nat.reduceAdd, Nat.reduceMul, Nat.reduceSub, Nat.reduceLT, Nat.reduceLeDiff, Nat.reduceEqDiff, Nat.reduceBEq, Nat.reduceBNe, Int.reduceLT, Int.reduceLE, Int.reduceEq, Int.reduceNe, Int.reduceAdd, Int.reduceSub, Int.reduceNeg, Int.reduceToNat, Int.reduceMul, ↓reduceIte, Int.reduceGT, Int.reduceGE, f2, f3, f4, f5, f6, f12, f32, f33, f34, hv13, hw, hB', hcj, Rec.cells, b0, b1, hb', decide_eq_false h1, nbool_undef, guardK_none]
      refine done _ _ ?_ ?_ ?_ ?_ ?_ ?_ ?_ ?_ ?_ ?_ ?_ ?_ <;> (try simp (disch := first | omega | (simp only [List.length_append, List.length_cons, List.length_nil, length_hset, length_hkill]; omega)) only [↓fsPre, fsPost, fsCond, fsGen, npick, nbin, nun, nconv, nnilCheck, noff, nidxArr, nidxSl, nfield, npart, nindex, nextract, nlenSl, nlenStr, ncap, mmx, minmax2, nslice, nsliceArr, nbounds, obound, bound, adv, nbits, eqVal, eqCell, eqCells, nfill, lenOfSl, cls, fresults, fresl, fres1, gt_iff_lt, ge_iff_le, reduceCtorEq, Nat.reduceAdd, Nat.reduceMul, Nat.reduceSub, Nat.reduceLT, Nat.reduceLeDiff, Nat.reduceEqDiff, Nat.reduceBEq, Nat.reduceBNe, Int.reduceLT, Int.reduceLE, Int.reduceEq, Int.reduceNe, Int.reduceAdd, Int.reduceSub, Int.reduceNeg, Int.reduceToNat, Int.reduceMul, ↓reduceIte, Int.reduceGT, Int.reduceGE, f34])
      · omega
      · intro b hb
        simp (disch := first | omega | (simp only [List.length_append, List.length_cons, List.length_nil, length_hset, length_hkill]; omega)) only [↓fsPre, fsPost, fsCond, fsGen, npick, nbin, nun, nconv, nnilCheck, noff, nidxArr, nidxSl, nfield, npart, nindex, nextract, nlenSl, nlenStr, ncap, mmx, minmax2, nslice, nsliceArr, nbounds, obound, bound, adv, nbits, eqVal, eqCell, eqCells, nfill, lenOfSl, cls, fresults, fresl, fres1, gt_iff_lt, ge_iff_le, reduceCtorEq, Nat.reduceAdd, Nat.reduceMul, Nat.reduceSub, Nat.reduceLT, Nat.reduceLeDiff, Nat.reduceEqDiff, Nat.reduceBEq, Nat.reduceBNe, Int.reduceLT, Int.reduceLE, Int.reduceEq, Int.reduceNe, Int.reduceAdd, Int.reduceSub, Int.reduceNeg, Int.reduceToNat, Int.reduceMul, ↓reduceIte, Int.reduceGT, Int.reduceGE]
      · rw [hK]; first | (rw [hv13]; exact out.ext Ext.app) | (rw [hv13, ← hw]; exact out.ext Ext.app) | (rw [← hw]; exact out.ext Ext.app)
  · rintro F h ⟨f2, f3, f4, f5, f6, f12, f32, f33, f34, len, old, b0, b1, out⟩
    simp (disch := first | omega | (simp only [List.length_append, List.length_cons, List.length_nil, length_hset, length_hkill]; omega)) only [↓fsPre, fsPost, fsCond, fsGen, npick, nbin, nun, nconv, nnilCheck, noff, nidxArr, nidxSl, nfield, npart, nindex, nextract, nlenSl, nlenStr, ncap, mmx, minmax2, nslice, nsliceArr, nbounds, obound, bound, adv, nbits, eqVal, eqCell, eqCells, nfill, lenOfSl, cls, fresults, fresl, fres1, gt_iff_lt, ge_iff_le, reduceCtorEq, Nat.reduceAdd, Nat.reduceMul, Nat.reduceSub, Nat.reduceLT, Nat.reduceLeDiff, Nat.reduceEqDiff, Nat.reduceBEq, Nat.reduceBNe, Int.reduceLT, Int.reduceLE, Int.reduceEq, Int.reduceNe, Int.reduceAdd, Int.reduceSub, Int.reduceNeg, Int.reduceToNat, Int.reduceMul, ↓reduceIte, Int.reduceGT, Int.reduceGE, f2, f3, f4, f5, f6, f12, f32, f33, f34]
    obtain ⟨J, hJ⟩ := heap_ext (by omega) old
    have hf := grc_recs out
    rw [List.take_length, hJ] at hf
    refine ⟨_, J, by rw [hJ], ?_⟩
    unfold recL
    rw [if_pos he]
    exact hf.low (by omega)

set_option maxHeartbeats 1000000 in
theorem rrecords_ok (H : Heap) (sl : NV) (all rs : List Rec) (b : Nat) (q : Nat → Int) (z0 z1 z2 z3 z4 z5 z7 z8 z9 : NV) (role fr count : Int) (sch : RSch H b q z0 z1 z2 z3 z4 z5 z7 z8 z9) (hs : RecsFrom 0 H sl all) (hal : all.length ≤ 1000) (hrs : rs = last24 all) :
    DCall Try.prog 27 [.agg [sl], .agg [z0, z1, z2, z3, z4, z5, .slice (some (b, 0)) 3 (.fix 3), z7, z8, z9], .int .i64 role, .int .i64 fr, .int .i64 count] H (recsQ H rs role fr count) := by
  have ho : sl.one = true := hs.at.one
  have old : ∀ L b, b < H.length → hget (H ++ L) b = hget H b := fun L b hb => hget_appl hb
  have hl : rs.length ≤ 24 := by rw [hrs, last24_length]; omega
  have hr := fun L => roleOf_ok (H ++ L) b q role z0 z1 z2 z3 z4 z5 z7 z8 z9 (sch.2.1.mono (old L)) (sch.2.2.1.mono (old L)) (sch.2.2.2.1.mono (old L)) (sch.2.2.2.2.1.mono (old L)) (sch.2.2.2.2.2.1.mono (old L)) (sch.2.2.2.2.2.2.1.mono (old L _ sch.2.2.2.2.2.2.1.lt)) ⟨sch.2.2.2.2.2.2.2.2.2.2.2.2.1, sch.2.2.2.2.2.2.2.2.2.2.2.2.2.1, sch.2.2.2.2.2.2.2.2.2.2.2.2.2.2.1, sch.2.2.2.2.2.2.2.2.2.2.2.2.2.2.2⟩
  obtain ⟨kv, hkv, hrow⟩ : ∃ kv, (∀ L, NCall Try.prog 14 [.agg [sl]] (H ++ L) (fun q => q = (kv, H ++ L))) ∧ RowsIn H kv rs := by
    rcases hs with ⟨rfl, rfl⟩ | ⟨p, rfl, _, hp⟩
    · refine ⟨_, fun L => keptnil_ok _, ?_⟩
      rw [hrs]
      exact ⟨none, .fix 0, rfl, by simp [last24]⟩
    · refine ⟨_, fun L => kept_ok (H ++ L) p _ all rfl (by rw [hget_appl (hget_lt hp)]; exact hp) hal, ?_⟩
      rw [hrs, ← last24_length]
      refine ⟨_, _, rfl, fun _ => ⟨p, _, _, _, rfl, hp, fun i hi => ?_⟩⟩
      have hi2 : all.length - 24 + i < all.length := by rw [last24_length] at hi; omega
      rw [← Nat.add_mul, recs_cut all _ hi2]
      simp [last24]
  obtain ⟨a, c, rfl, hrow⟩ := hrow
  have hbl := sch.2.2.2.2.2.2.1.lt
  obtain ⟨o0, o1, o2, o3, o4, o5, o7, o8, o9⟩ := sch.2.2.2.2.2.2.2
  obtain ⟨s0, s1, s2, g0, a0, g1, a1, g2, a2, hb, p1, p2, p3, p4, p5, p6⟩ := sch.2.2.2.2.2.2.1
  refine call_det E0 rfl mixed t27_ok (by kernel_rfl) (by rintro q ⟨_, _, rfl, _⟩; simp) ?_
  simp only [t27]
  simp (disch := first | omega | (simp only [List.length_append, List.length_cons, List.length_nil, length_hset, length_hkill]; omega)) only [↓fsPre, fsPost, fsCond, fsGen, npick, nbin, nun, nconv, nnilCheck, noff, nidxArr, nidxSl, nfield, npart, nindex, nextract, nlenSl, nlenStr, ncap, mmx, minmax2, nslice, nsliceArr, nbounds, obound, bound, adv, nbits, eqVal, eqCell, eqCells, nfill, lenOfSl, cls, fresults, fresl, fres1, gt_iff_lt, ge_iff_le, reduceCtorEq, Nat.reduceAdd, Nat.reduceMul, Nat.reduceSub, Nat.reduceLT, Nat.reduceLeDiff, Nat.reduceEqDiff, Nat.reduceBEq, Nat.reduceBNe, Int.reduceLT, Int.reduceLE, Int.reduceEq, Int.reduceNe, Int.reduceAdd, Int.reduceSub, Int.reduceNeg, Int.reduceToNat, Int.reduceMul, ↓reduceIte, Int.reduceGT, Int.reduceGE, ho, o0, o1, o2, o3, o4, o5, o7, o8, o9]
  refine callT_one (hr _) rfl ?_
  have hir : rix role = -1 ∨ (0 ≤ rix role ∧ rix role < 3) := by rcases rix_cases role with e | e | e | e <;> omega
  rcases hir with hneg | ⟨hi0, hi3⟩
  · rw [hneg]
    simp (disch := first | omega | (simp only [List.length_append, List.length_cons, List.length_nil, length_hset, length_hkill]; omega)) only [↓fsPre, fsPost, fsCond, fsGen, npick, nbin, nun, nconv, nnilCheck, noff, nidxArr, nidxSl, nfield, npart, nindex, nextract, nlenSl, nlenStr, ncap, mmx, minmax2, nslice, nsliceArr, nbounds, obound, bound, adv, nbits, eqVal, eqCell, eqCells, nfill, lenOfSl, cls, fresults, fresl, fres1, gt_iff_lt, ge_iff_le, reduceCtorEq, Nat.reduceAdd, Nat.reduceMul, Nat.reduceSub, Nat.reduceLT, Nat.reduceLeDiff, Nat.reduceEqDiff, Nat.reduceBEq, Nat.reduceBNe, Int.reduceLT, Int.reduceLE, Int.reduceEq, Int.reduceNe, Int.reduceAdd, Int.reduceSub, Int.reduceNeg, Int.reduceToNat, Int.reduceMul, ↓reduceIte, Int.reduceGT, Int.reduceGE]
    have he : recE role fr count = 21 := by unfold recE; rw [if_pos (by omega)]
    refine ⟨_, _, by rw [he], .inl ⟨rfl, ?_⟩⟩
    unfold recL; rw [if_neg (by omega)]
  have hi1 : decide (rix role = 0) = decide (role = 1) := by
    rw [decide_eq_decide]
    unfold rix
    split
    · omega
    · split
      · omega
      · split <;> omega
  have hneg : ¬ rix role < 0 := by omega
  have hld : ([.int .i64 1, .str s0, g0, a0, .int .i64 (q 0), .bool true, .int .i64 2, .str s1, g1, a1, .int .i64 (q 1), .bool false, .int .i64 7, .str s2, g2, a2, .int .i64 (q 2), .bool false] : List NV)[(rix role).toNat * 6 + 5]? = some (.bool (decide (rix role = 0))) := by
    have : rix role = 0 ∨ rix role = 1 ∨ rix role = 2 := by omega
    rcases this with e | e | e <;> rw [e] <;> rfl
  by_cases hbad : fr < 0 ∨ count < 0 ∨ 24 < count
  · have he : recE role fr count = 4 := by unfold recE; rw [if_neg hneg, if_pos hbad]
    have hL : recL rs role fr count = [] := by unfold recL; rw [if_neg (by omega)]
    by_cases k1 : fr < 0
    · simp (disch := first | omega | (simp only [List.length_append, List.length_cons, List.length_nil, length_hset, length_hkill]; omega)) only [↓fsPre, fsPost, fsCond, fsGen, npick, nbin, nun, nconv, nnilCheck, noff, nidxArr, nidxSl, nfield, npart, nindex, nextract, nlenSl, nlenStr, ncap, mmx, minmax2, nslice, nsliceArr, nbounds, obound, bound, adv, nbits, eqVal, eqCell, eqCells, nfill, lenOfSl, cls, fresults, fresl, fres1, gt_iff_lt, ge_iff_le, reduceCtorEq, Nat.reduceAdd, Nat.reduceMul, Nat.reduceSub, Nat.reduceLT, Nat.reduceLeDiff, Nat.reduceEqDiff, Nat.reduceBEq, Nat.reduceBNe, Int.reduceLT, Int.reduceLE, Int.reduceEq, Int.reduceNe, Int.reduceAdd, Int.reduceSub, Int.reduceNeg, Int.reduceToNat, Int.reduceMul, ↓reduceIte, Int.reduceGT, Int.reduceGE, hneg, decide_eq_true k1, nbool_undef, guardK_none]
      exact ⟨_, _, by rw [he], .inl ⟨rfl, hL⟩⟩
    · by_cases k2 : count < 0
      · simp (disch := first | omega | (simp only [List.length_append, List.length_cons, List.length_nil, length_hset, length_hkill]; omega)) only [↓fsPre, fsPost, fsCond, fsGen, npick, nbin, nun, nconv, nnilCheck, noff, nidxArr, nidxSl, nfield, npart, nindex, nextract, nlenSl, nlenStr, ncap, mmx, minmax2, nslice, nsliceArr, nbounds, obound, bound, adv, nbits, eqVal, eqCell, eqCells, nfill, lenOfSl, cls, fresults, fresl, fres1, gt_iff_lt, ge_iff_le, reduceCtorEq, Nat.reduceAdd, Nat.reduceMul, Nat.reduceSub, Nat.reduceLT, Nat.reduceLeDiff, Nat.reduceEqDiff, Nat.reduceBEq, Nat.reduceBNe, Int.reduceLT, Int.reduceLE, Int.reduceEq, Int.reduceNe, Int.reduceAdd, Int.reduceSub, Int.reduceNeg, Int.reduceToNat, Int.reduceMul, ↓reduceIte, Int.reduceGT, Int.reduceGE, hneg, decide_eq_false k1, decide_eq_true k2, nbool_undef, guardK_none]
        exact ⟨_, _, by rw [he], .inl ⟨rfl, hL⟩⟩
      · have k3 : 24 < count := by omega
        simp (disch := first | omega | (simp only [List.length_append, List.length_cons, List.length_nil, length_hset, length_hkill]; omega)) only [↓fsPre, fsPost, fsCond, fsGen, npick, nbin, nun, nconv, nnilCheck, noff, nidxArr, nidxSl, nfield, npart, nindex, nextract, nlenSl, nlenStr, ncap, mmx, minmax2, nslice, nsliceArr, nbounds, obound, bound, adv, nbits, eqVal, eqCell, eqCells, nfill, lenOfSl, cls, fresults, fresl, fres1, gt_iff_lt, ge_iff_le, reduceCtorEq, Nat.reduceAdd, Nat.reduceMul, Nat.reduceSub, Nat.reduceLT, Nat.reduceLeDiff, Nat.reduceEqDiff, Nat.reduceBEq, Nat.reduceBNe, Int.reduceLT, Int.reduceLE, Int.reduceEq, Int.reduceNe, Int.reduceAdd, Int.reduceSub, Int.reduceNeg, Int.reduceToNat, Int.reduceMul, ↓reduceIte, Int.reduceGT, Int.reduceGE, hneg, decide_eq_false k1, decide_eq_false k2, decide_eq_true k3, nbool_undef, guardK_none]
        exact ⟨_, _, by rw [he], .inl ⟨rfl, hL⟩⟩
  have he : recE role fr count = 0 := by unfold recE; rw [if_neg hneg, if_neg hbad]
  have k1 : ¬ fr < 0 := by omega
  have k2 : ¬ count < 0 := by omega
  have k3 : ¬ 24 < count := by omega
  unfold recsQ
  rw [he]
  generalize rix role = i at *
  simp (disch := first | omega | (simp only [List.length_append, List.length_cons, List.length_nil, length_hset, length_hkill]; omega)) only [↓fsPre, fsPost, fsCond, fsGen, npick, nbin, nun, nconv, nnilCheck, noff, nidxArr, nidxSl, nfield, npart, nindex, nextract, nlenSl, nlenStr, ncap, mmx, minmax2, nslice, nsliceArr, nbounds, obound, bound, adv, nbits, eqVal, eqCell, eqCells, nfill, lenOfSl, cls, fresults, fresl, fres1, gt_iff_lt, ge_iff_le, reduceCtorEq, Nat.reduceAdd, Nat.reduceMul, Nat.reduceSub, Nat.reduceLT, Nat.reduceLeDiff, Nat.reduceEqDiff, Nat.reduceBEq, Nat.reduceBNe, Int.reduceLT, Int.reduceLE, Int.reduceEq, Int.reduceNe, Int.reduceAdd, Int.reduceSub, Int.reduceNeg, Int.reduceToNat, Int.reduceMul, ↓reduceIte, Int.reduceGT, Int.reduceGE, hneg, decide_eq_false k1, decide_eq_false k2, decide_eq_false k3]
  refine callT_one (hkv _) rfl ?_
  simp (disch := first | omega | (simp only [List.length_append, List.length_cons, List.length_nil, length_hset, length_hkill]; omega)) only [↓fsPre, fsPost, fsCond, fsGen, npick, nbin, nun, nconv, nnilCheck, noff, nidxArr, nidxSl, nfield, npart, nindex, nextract, nlenSl, nlenStr, ncap, mmx, minmax2, nslice, nsliceArr, nbounds, obound, bound, adv, nbits, eqVal, eqCell, eqCells, nfill, lenOfSl, cls, fresults, fresl, fres1, gt_iff_lt, ge_iff_le, reduceCtorEq, Nat.reduceAdd, Nat.reduceMul, Nat.reduceSub, Nat.reduceLT, Nat.reduceLeDiff, Nat.reduceEqDiff, Nat.reduceBEq, Nat.reduceBNe, Int.reduceLT, Int.reduceLE, Int.reduceEq, Int.reduceNe, Int.reduceAdd, Int.reduceSub, Int.reduceNeg, Int.reduceToNat, Int.reduceMul, ↓reduceIte, Int.reduceGT, Int.reduceGE]
  refine wloop (RcI H [sl] [z0, z1, z2, z3, z4, z5, .slice (some (b, 0)) 3 (.fix 3), z7, z8, z9] b i role fr count rs a c) rs.length ?_ ?_ ?_
  · constructor <;> (try simp (disch := first | omega | (simp only [List.length_append, List.length_cons, List.length_nil, length_hset, length_hkill]; omega)) only [↓fsPre, fsPost, fsCond, fsGen, npick, nbin, nun, nconv, nnilCheck, noff, nidxArr, nidxSl, nfield, npart, nindex, nextract, nlenSl, nlenStr, ncap, mmx, minmax2, nslice, nsliceArr, nbounds, obound, bound, adv, nbits, eqVal, eqCell, eqCells, nfill, lenOfSl, cls, fresults, fresl, fres1, gt_iff_lt, ge_iff_le, reduceCtorEq, Nat.reduceAdd, Nat.reduceMul, Nat.reduceSub, Nat.reduceLT, Nat.reduceLeDiff, Nat.reduceEqDiff, Nat.reduceBEq, Nat.reduceBNe, Int.reduceLT, Int.reduceLE, Int.reduceEq, Int.reduceNe, Int.reduceAdd, Int.reduceSub, Int.reduceNeg, Int.reduceToNat, Int.reduceMul, ↓reduceIte, Int.reduceGT, Int.reduceGE])
    · exact fun b hb => hget_appl hb
    · rw [selR_nil]; exact .nil
  · rintro j F h hj ⟨f2, f3, f4, f5, f6, f12, f32, f33, f34, len, old, b0, b1, out⟩
    obtain ⟨B, o, cs, ro, rfl, hB, hcs⟩ := hrow (by omega)
    have hBl := hget_some_lt hB
    have hB' : hget h B = some (.cells cs ro) := by rw [old B hBl]; exact hB
    have hcj := hcs j hj
    have hb' : hget h b = _ := (old b hbl).trans hb
    obtain ⟨oa, oc, hw⟩   := grc_len out
    have ow := out.one
    have hsl : (selR (rs.take j) role fr count).length ≤ 24 := by
      have := selR_le (rs.take j) role fr count
      rw [List.length_take] at this; omega
    have hstep := selR_snoc (rs.take j) rs[j] role fr count
    have htk : rs.take (j + 1) = rs.take j ++ [rs[j]] := by rw [List.take_add_one, List.getElem?_eq_getElem hj]; rfl
    rw [← htk] at hstep
    generalize rs[j] = x at *
    generalize hS : selR (rs.take j) role fr count = S at *
    generalize hv13 : F 13 = v13 at *
    have keep : ¬ (S.length < count.toNat ∧ selP role fr x = true) → selR (rs.take (j + 1)) role fr count = S := fun h => by rw [hstep, if_neg h]
    have add : (S.length < count.toNat ∧ selP role fr x = true) → selR (rs.take (j + 1)) role fr count = S ++ [x] := fun h => by rw [hstep, if_pos h]
    clear hstep
    have done : ∀ (F' : FF) (h' : Heap), F' 2 = F 2 → F' 3 = F 3 → F' 4 = F 4 → F' 5 = F 5 → F' 6 = F 6 → F' 12 = F 12 → F' 32 = F 32 → F' 33 = F 33 → F' 34 = .int .i64 (j + 1 : Nat) → H.length + 2 ≤ h'.length → (∀ b, b < H.length + 2 → hget h' b = hget h b) →
        GrC h' (H.length + 2) (recs (selR (rs.take (j + 1)) role fr count)) 7 (F' 13) → RcI H [sl] [z0, z1, z2, z3, z4, z5, .slice (some (b, 0)) 3 (.fix 3), z7, z8, z9] b i role fr count rs (some (B, o)) c (j + 1) F' h' :=
      fun F' h' e2 e3 e4 e5 e6 e12 e32 e33 e34 hl ho hg => ⟨e2.trans f2, e3.trans f3, e4.trans f4, e5.trans f5, e6.trans f6, e12.trans f12, e32.trans f32, e33.trans f33, e34, hl, fun b hb => (ho b (by omega)).trans (old b hb), (ho _ (by omega)).trans b0, (ho _ (by omega)).trans b1, hg⟩
    by_cases h1 : (S.length : Int) < count
    · by_cases h2 : fr ≤ x.num
      · by_cases h3 : (decide (i = 0) = true ∨ x.role = role)
        · have hp : selP role fr x = true := by
            unfold selP
            rw [decide_eq_true h2, Bool.true_and, Bool.or_eq_true]
            rcases h3 with h3 | h3
            · left; rw [hi1] at h3; exact h3
            · right; exact decide_eq_true h3
          have hA := add ⟨by omega, hp⟩
          have fin : ∀ u, decide (i = 0) = u → (u = false → decide (x.role = role) = true) → True := fun _ _ _ => trivial
          clear fin
          cases hu : decide (i = 0) with
          | true =>
            rw [hu] at hld
            simp (disch := first | omega | (simp only [List.length_append, List.length_cons, List.length_nil, length_hset, length_hkill]; omega)) only [↓fsPre, fsPost, fsCond, fsGen, npick, nbin, nun, nconv, nnilCheck, noff, nidxArr, nidxSl, nfield, npart, nindex, nextract, nlenSl, nlenStr, ncap, mmx, minmax2, nslice, nsliceArr, nbounds, obound, bound, adv, nbits, eqVal, eqCell, eqCells, nfill, lenOfSl, cls, fresults, fresl, fres1, gt_iff_lt, ge_iff_le, reduceCtorEq, Nat.reduceAdd, Nat.reduceMul, Nat.reduceSub, Nat.reduceLT, Nat.reduceLeDiff, Nat.reduceEqDiff, Nat.reduceBEq, Nat.reduceBNe, Int.reduceLT, Int.reduceLE, Int.reduceEq, Int.reduceNe, Int.reduceAdd, Int.reduceSub, Int.reduceNeg, Int.reduceToNat, Int.reduceMul, ↓reduceIte, Int.reduceGT, Int.reduceGE, f2, f3, f4, f5, f6, f12, f32, f33, f34, hv13, hw, hB', hcj, Rec.cells, b0, b1, hb', hld, decide_eq_true h1, decide_eq_true h2]
            refine grc_app (N := H.length + 2) (by rw [← hw]; exact out.ext Ext.app) (by simp only [List.length_append]; omega) (sliceCells_at (by simp (disch := first | omega | (simp only [List.length_append, List.length_cons, List.length_nil, length_hset, length_hkill]; omega)) only [↓fsPre, fsPost, fsCond, fsGen, npick, nbin, nun, nconv, nnilCheck, noff, nidxArr, nidxSl, nfield, npart, nindex, nextract, nlenSl, nlenStr, ncap, mmx, minmax2, nslice, nsliceArr, nbounds, obound, bound, adv, nbits, eqVal, eqCell, eqCells, nfill, lenOfSl, cls, fresults, fresl, fres1, gt_iff_lt, ge_iff_le, reduceCtorEq, Nat.reduceAdd, Nat.reduceMul, Nat.reduceSub, Nat.reduceLT, Nat.reduceLeDiff, Nat.reduceEqDiff, Nat.reduceBEq, Nat.reduceBNe, Int.reduceLT, Int.reduceLE, Int.reduceEq, Int.reduceNe, Int.reduceAdd, Int.reduceSub, Int.reduceNeg, Int.reduceToNat, Int.reduceMul, ↓reduceIte, Int.reduceGT, Int.reduceGE] <;> rfl) rfl) rfl (by omega) (by omega) rfl (by rw [recs_length]; omega) (by omega) (by omega) ?_
            intro v' h' hg' hl' ho'
            simp (disch := first | omega | (simp only [List.length_append, List.length_cons, List.length_nil, length_hset, length_hkill]; omega)) only [↓fsPre, fsPost, fsCond, fsGen, npick, nbin, nun, nconv, nnilCheck, noff, nidxArr, nidxSl, nfield, npart, nindex, nextract, nlenSl, nlenStr, ncap, mmx, minmax2, nslice, nsliceArr, nbounds, obound, bound, adv, nbits, eqVal, eqCell, eqCells, nfill, lenOfSl, cls, fresults, fresl, fres1, gt_iff_lt, ge_iff_le, reduceCtorEq, Nat.reduceAdd, Nat.reduceMul, Nat.reduceSub, Nat.reduceLT, Nat.reduceLeDiff, Nat.reduceEqDiff, Nat.reduceBEq, Nat.reduceBNe, Int.reduceLT, Int.reduceLE, Int.reduceEq, Int.reduceNe, Int.reduceAdd, Int.reduceSub, Int.reduceNeg, Int.reduceToNat, Int.reduceMul, ↓reduceIte, Int.reduceGT, Int.reduceGE, f34]
            refine done _ _ ?_ ?_ ?_ ?_ ?_ ?_ ?_ ?_ ?_ ?_ ?_ ?_ <;> (try simp (disch := first | omega | (simp only [List.length_append, List.length_cons, List.length_nil, length_hset, length_hkill]; omega)) only [↓fsPre, fsPost, fsCond, fsGen, npick, nbin, nun, nconv, nnilCheck, noff, nidxArr, nidxSl, nfield, npart, nindex, nextract, nlenSl, nlenStr, ncap, mmx, minmax2, nslice, nsliceArr, nbounds, obound, bound, adv, nbits, eqVal, eqCell, eqCells, nfill, lenOfSl, cls, fresults, fresl, fres1, gt_iff_lt, ge_iff_le, reduceCtorEq, Nat.reduceAdd, Nat.reduceMul, Nat.reduceSub, Nat.reduceLT, Nat.reduceLeDiff, Nat.reduceEqDiff, Nat.reduceBEq, Nat.reduceBNe, Int.reduceLT, Int.reduceLE, Int.reduceEq, Int.reduceNe, Int.reduceAdd, Int.reduceSub, Int.reduceNeg, Int.reduceToNat, Int.reduceMul, ↓reduceIte, Int.reduceGT, Int.reduceGE, f34])
            · simp only [List.length_append, List.length_cons, List.length_nil] at hl'; omega
            · intro b hb
              rw [ho' b hb]; simp (disch := first | omega | (simp only [List.length_append, List.length_cons, List.length_nil, length_hset, length_hkill]; omega)) only [↓fsPre, fsPost, fsCond, fsGen, npick, nbin, nun, nconv, nnilCheck, noff, nidxArr, nidxSl, nfield, npart, nindex, nextract, nlenSl, nlenStr, ncap, mmx, minmax2, nslice, nsliceArr, nbounds, obound, bound, adv, nbits, eqVal, eqCell, eqCells, nfill, lenOfSl, cls, fresults, fresl, fres1, gt_iff_lt, ge_iff_le, reduceCtorEq, Nat.reduceAdd, Nat.reduceMul, Nat.reduceSub, Nat.reduceLT, Nat.reduceLeDiff, Nat.reduceEqDiff, Nat.reduceBEq, Nat.reduceBNe, Int.reduceLT, Int.reduceLE, Int.reduceEq, Int.reduceNe, Int.reduceAdd, Int.reduceSub, Int.reduceNeg, Int.reduceToNat, Int.reduceMul, ↓reduceIte, Int.reduceGT, Int.reduceGE]
            · rw [hA, recs_append]; exact hg'
          | false =>
            rw [hu] at hld
            have h4 : x.role = role := by
              rcases h3 with h3 | h3
              · rw [hu] at h3; cases h3
              · exact h3
            simp (disch := first | omega | (simp only [List.length_append, List.length_cons, List.length_nil, length_hset, length_hkill]; omega)) only [↓fsPre, fsPost, fsCond, fsGen, npick, nbin, nun, nconv, nnilCheck, noff, nidxArr, nidxSl, nfield, npart, nindex, nextract, nlenSl, nlenStr, ncap, mmx, minmax2, nslice, nsliceArr, nbounds, obound, bound, adv, nbits, eqVal, eqCell, eqCells, nfill, lenOfSl, cls, fresults, fresl, fres1, gt_iff_lt, ge_iff_le, reduceCtorEq, Nat.reduceAdd, Nat.reduceMul, Nat.reduceSub, Nat.reduceLT, Nat.reduceLeDiff, Nat.reduceEqDiff, Nat.reduceBEq, Nat.reduceBNe, Int.reduceLT, Int.reduceLE, Int.reduceEq, Int.reduceNe, Int.reduceAdd, Int.reduceSub, Int.reduceNeg, Int.reduceToNat, Int.reduceMul, ↓reduceIte, Int.reduceGT, Int.reduceGE, f2, f3, f4, f5, f6, f12, f32, f33, f34, hv13, hw, hB', hcj, Rec.cells, b0, b1, hb', hld, decide_eq_true h1, decide_eq_true h2, decide_eq_true h4]
            refine grc_app (N := H.length + 2) (by rw [← hw]; exact out.ext Ext.app) (by simp only [List.length_append]; omega) (sliceCells_at (by simp (disch := first | omega | (simp only [List.length_append, List.length_cons, List.length_nil, length_hset, length_hkill]; omega)) only [↓fsPre, fsPost, fsCond, fsGen, npick, nbin, nun, nconv, nnilCheck, noff, nidxArr, nidxSl, nfield, npart, nindex, nextract, nlenSl, nlenStr, ncap, mmx, minmax2, nslice, nsliceArr, nbounds, obound, bound, adv, nbits, eqVal, eqCell, eqCells, nfill, lenOfSl, cls, fresults, fresl, fres1, gt_iff_lt, ge_iff_le, reduceCtorEq, Nat.reduceAdd, Nat.reduceMul, Nat.reduceSub, Nat.reduceLT, Nat.reduceLeDiff, Nat.reduceEqDiff, Nat.reduceBEq, Nat.reduceBNe, Int.reduceLT, Int.reduceLE, Int.reduceEq, Int.reduceNe, Int.reduceAdd, Int.reduceSub, Int.reduceNeg, Int.reduceToNat, Int.reduceMul, ↓reduceIte, Int.reduceGT, Int.reduceGE] <;> rfl) rfl) rfl (by omega) (by omega) rfl (by rw [recs_length]; omega) (by omega) (by omega) ?_
            intro v' h' hg' hl' ho'
            simp (disch := first | omega | (simp only [List.length_append, List.length_cons, List.length_nil, length_hset, length_hkill]; omega)) only [↓fsPre, fsPost, fsCond, fsGen, npick, nbin, nun, nconv, nnilCheck, noff, nidxArr, nidxSl, nfield, npart, nindex, nextract, nlenSl, nlenStr, ncap, mmx, minmax2, nslice, nsliceArr, nbounds, obound, bound, adv, nbits, eqVal, eqCell, eqCells, nfill, lenOfSl, cls, fresults, fresl, fres1, gt_iff_lt, ge_iff_le, reduceCtorEq, Nat.reduceAdd, Nat.reduceMul, Nat.reduceSub, Nat.reduceLT, Nat.reduceLeDiff, Nat.reduceEqDiff, Nat.reduceBEq, Nat.reduceBNe, Int.reduceLT, Int.reduceLE, Int.reduceEq, Int.reduceNe, Int.reduceAdd, Int.reduceSub, Int.reduceNeg, Int.reduceToNat, Int.reduceMul, ↓reduceIte, Int.reduceGT, Int.reduceGE, f34]
            refine done _ _ ?_ ?_ ?_ ?_ ?_ ?_ ?_ ?_ ?_ ?_ ?_ ?_ <;> (try simp (disch := first | omega | (simp only [List.length_append, List.length_cons, List.length_nil, length_hset, length_hkill]; omega)) only [↓fsPre, fsPost, fsCond, fsGen, npick, nbin, nun, nconv, nnilCheck, noff, nidxArr, nidxSl, nfield, npart, nindex, nextract, nlenSl, nlenStr, ncap, mmx, minmax2, nslice, nsliceArr, nbounds, obound, bound, adv, nbits, eqVal, eqCell, eqCells, nfill, lenOfSl, cls, fresults, fresl, fres1, gt_iff_lt, ge_iff_le, reduceCtorEq, Nat.reduceAdd, Nat.reduceMul, Nat.reduceSub, Nat.reduceLT, Nat.reduceLeDiff, Nat.reduceEqDiff, Nat.reduceBEq, Nat.reduceBNe, Int.reduceLT, Int.reduceLE, Int.reduceEq, Int.reduceNe, Int.reduceAdd, Int.reduceSub, Int.reduceNeg, Int.reduceToNat, Int.reduceMul, ↓reduceIte, Int.reduceGT, Int.reduceGE, f34])
            · simp only [List.length_append, List.length_cons, List.length_nil] at hl'; omega
            · intro b hb
              rw [ho' b hb]; simp (disch := first | omega | (simp only [List.length_append, List.length_cons, List.length_nil, length_hset, length_hkill]; omega)) only [↓fsPre, fsPost, fsCond, fsGen, npick, nbin, nun, nconv, nnilCheck, noff, nidxArr, nidxSl, nfield, npart, nindex, nextract, nlenSl, nlenStr, ncap, mmx, minmax2, nslice, nsliceArr, nbounds, obound, bound, adv, nbits, eqVal, eqCell, eqCells, nfill, lenOfSl, cls, fresults, fresl, fres1, gt_iff_lt, ge_iff_le, reduceCtorEq, Nat.reduceAdd, Nat.reduceMul, Nat.reduceSub, Nat.reduceLT, Nat.reduceLeDiff, Nat.reduceEqDiff, Nat.reduceBEq, Nat.reduceBNe, Int.reduceLT, Int.reduceLE, Int.reduceEq, Int.reduceNe, Int.reduceAdd, Int.reduceSub, Int.reduceNeg, Int.reduceToNat, Int.reduceMul, ↓reduceIte, Int.reduceGT, Int.reduceGE]
            · rw [hA, recs_append]; exact hg'
        · have hu : decide (i = 0) = false := by
            cases hu : decide (i = 0) with
            | true => exact absurd (.inl hu) h3
            | false => rfl
          have h4 : ¬ x.role = role := fun e => h3 (.inr e)
          rw [hu] at hld
          have hK := keep (by
            rintro ⟨_, hp⟩
            unfold selP at hp
            rw [Bool.and_eq_true, Bool.or_eq_true] at hp
            rcases hp.2 with hp | hp
            · rw [← hi1, hu] at hp; cases hp
            · exact h4 (of_decide_eq_true hp))
          simp (disch := first | omega | (simp only [List.length_append, List.length_cons, List.length_nil, length_hset, length_hkill]; omega)) only [↓fsPre, fsPost, fsCond, fsGen, npick, nbin, nun, nconv, nnilCheck, noff, nidxArr, nidxSl, nfield, npart, nindex, nextract, nlenSl, nlenStr, ncap, mmx, minmax2, nslice, nsliceArr, nbounds, obound, bound, adv, nbits, eqVal, eqCell, eqCells, nfill, lenOfSl, cls, fresults, fresl, fres1, gt_iff_lt, ge_iff_le, reduceCtorEq, Nat.reduceAdd, Nat.reduceMul, Nat.reduceSub, Nat.reduceLT, Nat.reduceLeDiff, Nat.reduceEqDiff, Nat.reduceBEq, Nat.reduceBNe, Int.reduceLT, Int.reduceLE, Int.reduceEq, Int.reduceNe, Int.reduceAdd, Int.reduceSub, Int.reduceNeg, Int.reduceToNat, Int.reduceMul, ↓reduceIte, Int.reduceGT, Int.reduceGE, f2, f3, f4, f5, f6, f12, f32, f33, f34, hv13, hw, hB', hcj, Rec.cells, b0, b1, hb', hld, decide_eq_true h1, decide_eq_true h2, decide_eq_false h4]
          refine done _ _ ?_ ?_ ?_ ?_ ?_ ?_ ?_ ?_ ?_ ?_ ?_ ?_ <;> (try simp (disch := first | omega | (simp only [List.length_append, List.length_cons, List.length_nil, length_hset, length_hkill]; omega)) only [↓fsPre, fsPost, fsCond, fsGen, npick, nbin, nun, nconv, nnilCheck, noff, nidxArr, nidxSl, nfield, npart, nindex, nextract, nlenSl, nlenStr, ncap, mmx, minmax2, nslice, nsliceArr, nbounds, obound, bound, adv, nbits, eqVal, eqCell, eqCells, nfill, lenOfSl, cls, fresults, fresl, fres1, gt_iff_lt, ge_iff_le, reduceCtorEq, Nat.reduceAdd, Nat.reduceMul, Nat.reduceSub, Nat.reduceLT, Nat.reduceLeDiff, Nat.reduceEqDiff, Nat.reduceBEq, Nat.reduceBNe, Int.reduceLT, Int.reduceLE, Int.reduceEq, Int.reduceNe, Int.reduceAdd, Int.reduceSub, Int.reduceNeg, Int.reduceToNat, Int.reduceMul, ↓reduceIte, Int.reduceGT, Int.reduceGE, f34])
          · omega
          · intro b hb
            simp (disch := first | omega | (simp only [List.length_append, List.length_cons, List.length_nil, length_hset, length_hkill]; omega)) only [↓fsPre, fsPost, fsCond, fsGen, npick, nbin, nun, nconv, nnilCheck, noff, nidxArr, nidxSl, nfield, npart, nindex, nextract, nlenSl, nlenStr, ncap, mmx, minmax2, nslice, nsliceArr, nbounds, obound, bound, adv, nbits, eqVal, eqCell, eqCells, nfill, lenOfSl, cls, fresults, fresl, fres1, gt_iff_lt, ge_iff_le, reduceCtorEq, Nat.reduceAdd, Nat.reduceMul, Nat.reduceSub, Nat.reduceLT, Nat.reduceLeDiff, Nat.reduceEqDiff, Nat.reduceBEq, Nat.reduceBNe, Int.reduceLT, Int.reduceLE, Int.reduceEq, Int.reduceNe, Int.reduceAdd, Int.reduceSub, Int.reduceNeg, Int.reduceToNat, Int.reduceMul, ↓reduceIte, Int.reduceGT, Int.reduceGE]
          · rw [hK]; first | (rw [hv13]; exact out.ext Ext.app) | (rw [hv13, ← hw]; exact out.ext Ext.app) | (rw [← hw]; exact out.ext Ext.app)
      · have hK := keep (by
          rintro ⟨_, hp⟩
          unfold selP at hp
          rw [Bool.and_eq_true] at hp
          exact h2 (of_decide_eq_true hp.1))
        simp (disch := first | omega | (simp only [List.length_append, List.length_cons, List.length_nil, length_hset, length_hkill]; omega)) only [↓fsPre, fsPost, fsCond, fsGen, npick, nbin, nun, nconv, nnilCheck, noff, nidxArr, nidxSl, nfield, npart, nindex, nextract, nlenSl, nlenStr, ncap, mmx, minmax2, nslice, nsliceArr, nbounds, obound, bound, adv, nbits, eqVal, eqCell, eqCells, nfill, lenOfSl, cls, fresults, fresl, fres1, gt_iff_lt, ge_iff_le, reduceCtorEq, Nat.reduceAdd, Nat.reduceMul, Nat.reduceSub, Nat.reduceLT, Nat.reduceLeDiff, Nat.reduceEqDiff, Nat.reduceBEq, Nat.reduceBNe, Int.reduceLT, Int.reduceLE, Int.reduceEq, Int.reduceNe, Int.reduceAdd, Int.reduceSub, Int.reduceNeg, Int.reduceToNat, Int.reduceMul, ↓reduceIte, Int.reduceGT, Int.reduceGE, f2, f3, f4, f5, f6, f12, f32, f33, f34, hv13, hw, hB', hcj, Rec.cells, b0, b1, hb', decide_eq_true h1, decide_eq_false h2, nbool_undef, guardK_none]
        refine done _ _ ?_ ?_ ?_ ?_ ?_ ?_ ?_ ?_ ?_ ?_ ?_ ?_ <;> (try simp (disch := first | omega | (simp only [List.length_append, List.length_cons, List.length_nil, length_hset, length_hkill]; omega)) only [↓fsPre, fsPost, fsCond, fsGen, npick, nbin, nun, nconv, nnilCheck, noff, nidxArr, nidxSl, nfield, npart, nindex, nextract, nlenSl, nlenStr, ncap, mmx, minmax2, nslice, nsliceArr, nbounds, obound, bound, adv, nbits, eqVal, eqCell, eqCells, nfill, lenOfSl, cls, fresults, fresl, fres1, gt_iff_lt, ge_iff_le, reduceCtorEq, Nat.reduceAdd, Nat.reduceMul, Nat.reduceSub, Nat.reduceLT, Nat.reduceLeDiff, Nat.reduceEqDiff, Nat.reduceBEq, Nat.reduceBNe, Int.reduceLT, Int.reduceLE, Int.reduceEq, Int.reduceNe, Int.reduceAdd, Int.reduceSub, Int.reduceNeg, Int.reduceToNat, Int.reduceMul, ↓reduceIte, Int.reduceGT, Int.reduceGE, f34])
        · omega
        · intro b hb
          simp (disch := first | omega | (simp only [List.length_append, List.length_cons, List.length_nil, length_hset, length_hkill]; omega)) only [↓fsPre, fsPost, fsCond, fsGen, npick, nbin, nun, nconv, nnilCheck, noff, nidxArr, nidxSl, nfield, npart, nindex, nextract, nlenSl, nlenStr, ncap, mmx, minmax2, nslice, nsliceArr, nbounds, obound, bound, adv, nbits, eqVal, eqCell, eqCells, nfill, lenOfSl, cls, fresults, fresl, fres1, gt_iff_lt, ge_iff_le, reduceCtorEq, Nat.reduceAdd, Nat.reduceMul, Nat.reduceSub, Nat.reduceLT, Nat.reduceLeDiff, Nat.reduceEqDiff, Nat.reduceBEq, Nat.reduceBNe, Int.reduceLT, Int.reduceLE, Int.reduceEq, Int.reduceNe, Int.reduceAdd, Int.reduceSub, Int.reduceNeg, Int.reduceToNat, Int.reduceMul, ↓reduceIte, Int.reduceGT, Int.reduceGE]
        · rw [hK]; first | (rw [hv13]; exact out.ext Ext.app) | (rw [hv13, ← hw]; exact out.ext Ext.app) | (rw [← hw]; exact out.ext Ext.app)
    · have hK := keep (by rintro ⟨h, _⟩; omega)
      simp (disch := first | omega | (simp only [List.length_append, List.length_cons, List.length_nil, length_hset, length_hkill]; omega)) only [↓fsPre, fsPost, fsCond, fsGen, npick, nbin, nun, nconv, nnilCheck, noff, nidxArr, nidxSl, nfield, npart, nindex, nextract, nlenSl, nlenStr, ncap, mmx, minmax2, nslice, nsliceArr, nbounds, obound, bound, adv, nbits, eqVal, eqCell, eqCells, nfill, lenOfSl, cls, fresults, fresl, fres1, gt_iff_lt, ge_iff_le, reduceCtorEq, Nat.reduceAdd, Nat.reduceMul, Nat.reduceSub, Nat.reduceLT, Nat.reduceLeDiff, Nat.reduceEqDiff, Nat.reduceBEq, Nat.reduceBNe, Int.reduceLT, Int.reduceLE, Int.reduceEq, Int.reduceNe, Int.reduceAdd, Int.reduceSub, Int.reduceNeg, Int.reduceToNat, Int.reduceMul, ↓reduceIte, Int.reduceGT, Int.reduceGE, f2, f3, f4, f5, f6, f12, f32, f33, f34, hv13, hw, hB', hcj, Rec.cells, b0, b1, hb', decide_eq_false h1, nbool_undef, guardK_none]
      refine done _ _ ?_ ?_ ?_ ?_ ?_ ?_ ?_ ?_ ?_ ?_ ?_ ?_ <;> (try simp (disch := first | omega | (simp only [List.length_append, List.length_cons, List.length_nil, length_hset, length_hkill]; omega)) only [↓fsPre, fsPost, fsCond, fsGen, npick, nbin, nun, nconv, nnilCheck, noff, nidxArr, nidxSl, nfield, npart, nindex, nextract, nlenSl, nlenStr, ncap, mmx, minmax2, nslice, nsliceArr, nbounds, obound, bound, adv, nbits, eqVal, eqCell, eqCells, nfill, lenOfSl, cls, fresults, fresl, fres1, gt_iff_lt, ge_iff_le, reduceCtorEq, Nat.reduceAdd, Nat.reduceMul, Nat.reduceSub, Nat.reduceLT, Nat.reduceLeDiff, Nat.reduceEqDiff, Nat.reduceBEq, Nat.reduceBNe, Int.reduceLT, Int.reduceLE, Int.reduceEq, Int.reduceNe, Int.reduceAdd, Int.reduceSub, Int.reduceNeg, Int.reduceToNat, Int.reduceMul, ↓reduceIte, Int.reduceGT, Int.reduceGE, f34])
      · omega
      · intro b hb
        simp (disch := first | omega | (simp only [List.length_append, List.length_cons, List.length_nil, length_hset, length_hkill]; omega)) only [↓fsPre, fsPost, fsCond, fsGen, npick, nbin, nun, nconv, nnilCheck, noff, nidxArr, nidxSl, nfield, npart, nindex, nextract, nlenSl, nlenStr, ncap, mmx, minmax2, nslice, nsliceArr, nbounds, obound, bound, adv, nbits, eqVal, eqCell, eqCells, nfill, lenOfSl, cls, fresults, fresl, fres1, gt_iff_lt, ge_iff_le, reduceCtorEq, Nat.reduceAdd, Nat.reduceMul, Nat.reduceSub, Nat.reduceLT, Nat.reduceLeDiff, Nat.reduceEqDiff, Nat.reduceBEq, Nat.reduceBNe, Int.reduceLT, Int.reduceLE, Int.reduceEq, Int.reduceNe, Int.reduceAdd, Int.reduceSub, Int.reduceNeg, Int.reduceToNat, Int.reduceMul, ↓reduceIte, Int.reduceGT, Int.reduceGE]
      · rw [hK]; first | (rw [hv13]; exact out.ext Ext.app) | (rw [hv13, ← hw]; exact out.ext Ext.app) | (rw [← hw]; exact out.ext Ext.app)
  · rintro F h ⟨f2, f3, f4, f5, f6, f12, f32, f33, f34, len, old, b0, b1, out⟩
    simp (disch := first | omega | (simp only [List.length_append, List.length_cons, List.length_nil, length_hset, length_hkill]; omega)) only [↓fsPre, fsPost, fsCond, fsGen, npick, nbin, nun, nconv, nnilCheck, noff, nidxArr, nidxSl, nfield, npart, nindex, nextract, nlenSl, nlenStr, ncap, mmx, minmax2, nslice, nsliceArr, nbounds, obound, bound, adv, nbits, eqVal, eqCell, eqCells, nfill, lenOfSl, cls, fresults, fresl, fres1, gt_iff_lt, ge_iff_le, reduceCtorEq, Nat.reduceAdd, Nat.reduceMul, Nat.reduceSub, Nat.reduceLT, Nat.reduceLeDiff, Nat.reduceEqDiff, Nat.reduceBEq, Nat.reduceBNe, Int.reduceLT, Int.reduceLE, Int.reduceEq, Int.reduceNe, Int.reduceAdd, Int.reduceSub, Int.reduceNeg, Int.reduceToNat, Int.reduceMul, ↓reduceIte, Int.reduceGT, Int.reduceGE, f2, f3, f4, f5, f6, f12, f32, f33, f34]
    obtain ⟨J, hJ⟩ := heap_ext (by omega) old
    have hf := grc_recs out
    rw [List.take_length, hJ] at hf
    refine ⟨_, J, by rw [hJ], ?_⟩
    unfold recL
    rw [if_pos he]
    exact hf.low (by omega)

end Go.Proofs
