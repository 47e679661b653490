/- QuotaCalls. -/
import Derived.Test.YtlnkiclnofgagaaS1QA
set_option linter.unusedSimpArgs false
set_option linter.unusedVariables false
set_option maxRecDepth 10000
namespace Go.Proofs
open Go.Ns

def usedCells (k : Nat → Int) : List NV := [.int .i64 1, .int .i64 (k 0), .int .i64 2, .int .i64 (k 1), .int .i64 7, .int .i64 (k 2)]
theorem all_ok (H : Heap) (c b : Nat) (q k : Nat → Int) (hr : RolesAt H b q) (hc : CntAt H c b k) :
    DCall Try.prog 25 [.ptr (some (c, 0))] H fun r => ∃ p, r.1 = .slice (some (p, 0)) 3 (.opn 2) ∧ hget r.2 p = some (.cells (usedCells k) false) ∧ H.length ≤ r.2.length ∧ ∀ e, e < H.length → hget r.2 e = hget H e := by
  have hbl := hr.lt
  obtain ⟨s0, s1, s2, g0, a0, g1, a1, g2, a2, hb, o1, o2, o3, o4, o5, o6⟩ := hr
  unfold CntAt cntCells at hc
  have hcl := hget_some_lt hc
  refine call_det E0 rfl mixed t25_ok (by kernel_rfl) (by rintro q ⟨_, _, _, h, _⟩; exact h) ?_
  simp only [t25]
  simp (disch := first | omega | (simp only [List.length_append, List.length_cons, List.length_nil, length_hset, length_hkill]; omega)) only [↓fsPre, fsPost, fsCond, fsGen, npick, nbin, nun, nconv, nnilCheck, noff, nidxArr, nidxSl, nfield, npart, nindex, nextract, nlenSl, nlenStr, ncap, mmx, minmax2, nslice, nsliceArr, nbounds, obound, bound, adv, nbits, eqVal, eqCell, eqCells, nfill, lenOfSl, cls, fresults, fresl, fres1, gt_iff_lt, ge_iff_le, reduceCtorEq, Nat.reduceAdd, Nat.reduceMul, Nat.reduceSub, Nat.reduceLT, Nat.reduceLeDiff, Nat.reduceEqDiff, Nat.reduceBEq, Nat.reduceBNe, Int.reduceLT, Int.reduceLE, Int.reduceEq, Int.reduceNe, Int.reduceAdd, Int.reduceSub, Int.reduceNeg, Int.reduceToNat, Int.reduceMul, ↓reduceIte, Int.reduceGT, Int.reduceGE, hc]
  refine wloop (fun j F h => F 0 = .ptr (some (c, 0)) ∧ F 11 = .slice (some (b, 0)) 3 (.fix 3) ∧ F 12 = .int .i64 3 ∧ F 13 = .int .i64 j ∧ H.length ≤ h.length ∧ (∀ e, e < H.length → hget h e = hget H e) ∧ GrC h H.length ((usedCells k).take (2 * j)) 2 (F 3)) 3 ?_ ?_ ?_
  · simp (disch := first | omega | (simp only [List.length_append, List.length_cons, List.length_nil, length_hset, length_hkill]; omega)) only [↓fsPre, fsPost, fsCond, fsGen, npick, nbin, nun, nconv, nnilCheck, noff, nidxArr, nidxSl, nfield, npart, nindex, nextract, nlenSl, nlenStr, ncap, mmx, minmax2, nslice, nsliceArr, nbounds, obound, bound, adv, nbits, eqVal, eqCell, eqCells, nfill, lenOfSl, cls, fresults, fresl, fres1, gt_iff_lt, ge_iff_le, reduceCtorEq, Nat.reduceAdd, Nat.reduceMul, Nat.reduceSub, Nat.reduceLT, Nat.reduceLeDiff, Nat.reduceEqDiff, Nat.reduceBEq, Nat.reduceBNe, Int.reduceLT, Int.reduceLE, Int.reduceEq, Int.reduceNe, Int.reduceAdd, Int.reduceSub, Int.reduceNeg, Int.reduceToNat, Int.reduceMul, ↓reduceIte, Int.reduceGT, Int.reduceGE]
    exact .nil
  · rintro j F h hj ⟨f0, f11, f12, f13, hl, ho, hg⟩
    have hb' := (ho b hbl).trans hb
    have hc' := (ho c hcl).trans hc
    have u3 := hg.one
    match j, hj with
    | 0, _ =>
      simp (disch := first | omega | (simp only [List.length_append, List.length_cons, List.length_nil, length_hset, length_hkill]; omega)) only [↓fsPre, fsPost, fsCond, fsGen, npick, nbin, nun, nconv, nnilCheck, noff, nidxArr, nidxSl, nfield, npart, nindex, nextract, nlenSl, nlenStr, ncap, mmx, minmax2, nslice, nsliceArr, nbounds, obound, bound, adv, nbits, eqVal, eqCell, eqCells, nfill, lenOfSl, cls, fresults, fresl, fres1, gt_iff_lt, ge_iff_le, reduceCtorEq, Nat.reduceAdd, Nat.reduceMul, Nat.reduceSub, Nat.reduceLT, Nat.reduceLeDiff, Nat.reduceEqDiff, Nat.reduceBEq, Nat.reduceBNe, Int.reduceLT, Int.reduceLE, Int.reduceEq, Int.reduceNe, Int.reduceAdd, Int.reduceSub, Int.reduceNeg, Int.reduceToNat, Int.reduceMul, ↓reduceIte, Int.reduceGT, Int.reduceGE, f0, f11, f12, f13, hb', hc', o1, o2, o3, o4, o5, o6, u3]
      refine grc_app (N := H.length) (hg.ext Ext.app) (by rw [List.length_append]; omega) (sliceCells_at (by simp (disch := first | omega | (simp only [List.length_append, List.length_cons, List.length_nil, length_hset, length_hkill]; omega)) only [↓fsPre, fsPost, fsCond, fsGen, npick, nbin, nun, nconv, nnilCheck, noff, nidxArr, nidxSl, nfield, npart, nindex, nextract, nlenSl, nlenStr, ncap, mmx, minmax2, nslice, nsliceArr, nbounds, obound, bound, adv, nbits, eqVal, eqCell, eqCells, nfill, lenOfSl, cls, fresults, fresl, fres1, gt_iff_lt, ge_iff_le, reduceCtorEq, Nat.reduceAdd, Nat.reduceMul, Nat.reduceSub, Nat.reduceLT, Nat.reduceLeDiff, Nat.reduceEqDiff, Nat.reduceBEq, Nat.reduceBNe, Int.reduceLT, Int.reduceLE, Int.reduceEq, Int.reduceNe, Int.reduceAdd, Int.reduceSub, Int.reduceNeg, Int.reduceToNat, Int.reduceMul, ↓reduceIte, Int.reduceGT, Int.reduceGE] <;> rfl) rfl) rfl (by omega) (by omega) rfl (by simp [usedCells]) (by omega) (by omega) ?_
      intro v' h' hg' hl' old'
      simp (disch := first | omega | (simp only [List.length_append, List.length_cons, List.length_nil, length_hset, length_hkill]; omega)) only [↓fsPre, fsPost, fsCond, fsGen, npick, nbin, nun, nconv, nnilCheck, noff, nidxArr, nidxSl, nfield, npart, nindex, nextract, nlenSl, nlenStr, ncap, mmx, minmax2, nslice, nsliceArr, nbounds, obound, bound, adv, nbits, eqVal, eqCell, eqCells, nfill, lenOfSl, cls, fresults, fresl, fres1, gt_iff_lt, ge_iff_le, reduceCtorEq, Nat.reduceAdd, Nat.reduceMul, Nat.reduceSub, Nat.reduceLT, Nat.reduceLeDiff, Nat.reduceEqDiff, Nat.reduceBEq, Nat.reduceBNe, Int.reduceLT, Int.reduceLE, Int.reduceEq, Int.reduceNe, Int.reduceAdd, Int.reduceSub, Int.reduceNeg, Int.reduceToNat, Int.reduceMul, ↓reduceIte, Int.reduceGT, Int.reduceGE] at hl'
      simp (disch := first | omega | (simp only [List.length_append, List.length_cons, List.length_nil, length_hset, length_hkill]; omega)) only [↓fsPre, fsPost, fsCond, fsGen, npick, nbin, nun, nconv, nnilCheck, noff, nidxArr, nidxSl, nfield, npart, nindex, nextract, nlenSl, nlenStr, ncap, mmx, minmax2, nslice, nsliceArr, nbounds, obound, bound, adv, nbits, eqVal, eqCell, eqCells, nfill, lenOfSl, cls, fresults, fresl, fres1, gt_iff_lt, ge_iff_le, reduceCtorEq, Nat.reduceAdd, Nat.reduceMul, Nat.reduceSub, Nat.reduceLT, Nat.reduceLeDiff, Nat.reduceEqDiff, Nat.reduceBEq, Nat.reduceBNe, Int.reduceLT, Int.reduceLE, Int.reduceEq, Int.reduceNe, Int.reduceAdd, Int.reduceSub, Int.reduceNeg, Int.reduceToNat, Int.reduceMul, ↓reduceIte, Int.reduceGT, Int.reduceGE, f0, f11, f12, f13, hb', hc', o1, o2, o3, o4, o5, o6, u3, hl']
      refine ⟨by omega, fun e he => ?_, hg'⟩
      rw [old' e he, hget_appl (by omega)]; exact ho e he
    | 1, _ =>
      simp (disch := first | omega | (simp only [List.length_append, List.length_cons, List.length_nil, length_hset, length_hkill]; omega)) only [↓fsPre, fsPost, fsCond, fsGen, npick, nbin, nun, nconv, nnilCheck, noff, nidxArr, nidxSl, nfield, npart, nindex, nextract, nlenSl, nlenStr, ncap, mmx, minmax2, nslice, nsliceArr, nbounds, obound, bound, adv, nbits, eqVal, eqCell, eqCells, nfill, lenOfSl, cls, fresults, fresl, fres1, gt_iff_lt, ge_iff_le, reduceCtorEq, Nat.reduceAdd, Nat.reduceMul, Nat.reduceSub, Nat.reduceLT, Nat.reduceLeDiff, Nat.reduceEqDiff, Nat.reduceBEq, Nat.reduceBNe, Int.reduceLT, Int.reduceLE, Int.reduceEq, Int.reduceNe, Int.reduceAdd, Int.reduceSub, Int.reduceNeg, Int.reduceToNat, Int.reduceMul, ↓reduceIte, Int.reduceGT, Int.reduceGE, f0, f11, f12, f13, hb', hc', o1, o2, o3, o4, o5, o6, u3]
      refine grc_app (N := H.length) (hg.ext Ext.app) (by rw [List.length_append]; omega) (sliceCells_at (by simp (disch := first | omega | (simp only [List.length_append, List.length_cons, List.length_nil, length_hset, length_hkill]; omega)) only [↓fsPre, fsPost, fsCond, fsGen, npick, nbin, nun, nconv, nnilCheck, noff, nidxArr, nidxSl, nfield, npart, nindex, nextract, nlenSl, nlenStr, ncap, mmx, minmax2, nslice, nsliceArr, nbounds, obound, bound, adv, nbits, eqVal, eqCell, eqCells, nfill, lenOfSl, cls, fresults, fresl, fres1, gt_iff_lt, ge_iff_le, reduceCtorEq, Nat.reduceAdd, Nat.reduceMul, Nat.reduceSub, Nat.reduceLT, Nat.reduceLeDiff, Nat.reduceEqDiff, Nat.reduceBEq, Nat.reduceBNe, Int.reduceLT, Int.reduceLE, Int.reduceEq, Int.reduceNe, Int.reduceAdd, Int.reduceSub, Int.reduceNeg, Int.reduceToNat, Int.reduceMul, ↓reduceIte, Int.reduceGT, Int.reduceGE] <;> rfl) rfl) rfl (by omega) (by omega) rfl (by simp [usedCells]) (by omega) (by omega) ?_
      intro v' h' hg' hl' old'
      simp (disch := first | omega | (simp only [List.length_append, List.length_cons, List.length_nil, length_hset, length_hkill]; omega)) only [↓fsPre, fsPost, fsCond, fsGen, npick, nbin, nun, nconv, nnilCheck, noff, nidxArr, nidxSl, nfield, npart, nindex, nextract, nlenSl, nlenStr, ncap, mmx, minmax2, nslice, nsliceArr, nbounds, obound, bound, adv, nbits, eqVal, eqCell, eqCells, nfill, lenOfSl, cls, fresults, fresl, fres1, gt_iff_lt, ge_iff_le, reduceCtorEq, Nat.reduceAdd, Nat.reduceMul, Nat.reduceSub, Nat.reduceLT, Nat.reduceLeDiff, Nat.reduceEqDiff, Nat.reduceBEq, Nat.reduceBNe, Int.reduceLT, Int.reduceLE, Int.reduceEq, Int.reduceNe, Int.reduceAdd, Int.reduceSub, Int.reduceNeg, Int.reduceToNat, Int.reduceMul, ↓reduceIte, Int.reduceGT, Int.reduceGE] at hl'
      simp (disch := first | omega | (simp only [List.length_append, List.length_cons, List.length_nil, length_hset, length_hkill]; omega)) only [↓fsPre, fsPost, fsCond, fsGen, npick, nbin, nun, nconv, nnilCheck, noff, nidxArr, nidxSl, nfield, npart, nindex, nextract, nlenSl, nlenStr, ncap, mmx, minmax2, nslice, nsliceArr, nbounds, obound, bound, adv, nbits, eqVal, eqCell, eqCells, nfill, lenOfSl, cls, fresults, fresl, fres1, gt_iff_lt, ge_iff_le, reduceCtorEq, Nat.reduceAdd, Nat.reduceMul, Nat.reduceSub, Nat.reduceLT, Nat.reduceLeDiff, Nat.reduceEqDiff, Nat.reduceBEq, Nat.reduceBNe, Int.reduceLT, Int.reduceLE, Int.reduceEq, Int.reduceNe, Int.reduceAdd, Int.reduceSub, Int.reduceNeg, Int.reduceToNat, Int.reduceMul, ↓reduceIte, Int.reduceGT, Int.reduceGE, f0, f11, f12, f13, hb', hc', o1, o2, o3, o4, o5, o6, u3, hl']
      refine ⟨by omega, fun e he => ?_, hg'⟩
      rw [old' e he, hget_appl (by omega)]; exact ho e he
    | 2, _ =>
      simp (disch := first | omega | (simp only [List.length_append, List.length_cons, List.length_nil, length_hset, length_hkill]; omega)) only [↓fsPre, fsPost, fsCond, fsGen, npick, nbin, nun, nconv, nnilCheck, noff, nidxArr, nidxSl, nfield, npart, nindex, nextract, nlenSl, nlenStr, ncap, mmx, minmax2, nslice, nsliceArr, nbounds, obound, bound, adv, nbits, eqVal, eqCell, eqCells, nfill, lenOfSl, cls, fresults, fresl, fres1, gt_iff_lt, ge_iff_le, reduceCtorEq, Nat.reduceAdd, Nat.reduceMul, Nat.reduceSub, Nat.reduceLT, Nat.reduceLeDiff, Nat.reduceEqDiff, Nat.reduceBEq, Nat.reduceBNe, Int.reduceLT, Int.reduceLE, Int.reduceEq, Int.reduceNe, Int.reduceAdd, Int.reduceSub, Int.reduceNeg, Int.reduceToNat, Int.reduceMul, ↓reduceIte, Int.reduceGT, Int.reduceGE, f0, f11, f12, f13, hb', hc', o1, o2, o3, o4, o5, o6, u3]
      refine grc_app (N := H.length) (hg.ext Ext.app) (by rw [List.length_append]; omega) (sliceCells_at (by simp (disch := first | omega | (simp only [List.length_append, List.length_cons, List.length_nil, length_hset, length_hkill]; omega)) only [↓fsPre, fsPost, fsCond, fsGen, npick, nbin, nun, nconv, nnilCheck, noff, nidxArr, nidxSl, nfield, npart, nindex, nextract, nlenSl, nlenStr, ncap, mmx, minmax2, nslice, nsliceArr, nbounds, obound, bound, adv, nbits, eqVal, eqCell, eqCells, nfill, lenOfSl, cls, fresults, fresl, fres1, gt_iff_lt, ge_iff_le, reduceCtorEq, Nat.reduceAdd, Nat.reduceMul, Nat.reduceSub, Nat.reduceLT, Nat.reduceLeDiff, Nat.reduceEqDiff, Nat.reduceBEq, Nat.reduceBNe, Int.reduceLT, Int.reduceLE, Int.reduceEq, Int.reduceNe, Int.reduceAdd, Int.reduceSub, Int.reduceNeg, Int.reduceToNat, Int.reduceMul, ↓reduceIte, Int.reduceGT, Int.reduceGE] <;> rfl) rfl) rfl (by omega) (by omega) rfl (by simp [usedCells]) (by omega) (by omega) ?_
      intro v' h' hg' hl' old'
      simp (disch := first | omega | (simp only [List.length_append, List.length_cons, List.length_nil, length_hset, length_hkill]; omega)) only [↓fsPre, fsPost, fsCond, fsGen, npick, nbin, nun, nconv, nnilCheck, noff, nidxArr, nidxSl, nfield, npart, nindex, nextract, nlenSl, nlenStr, ncap, mmx, minmax2, nslice, nsliceArr, nbounds, obound, bound, adv, nbits, eqVal, eqCell, eqCells, nfill, lenOfSl, cls, fresults, fresl, fres1, gt_iff_lt, ge_iff_le, reduceCtorEq, Nat.reduceAdd, Nat.reduceMul, Nat.reduceSub, Nat.reduceLT, Nat.reduceLeDiff, Nat.reduceEqDiff, Nat.reduceBEq, Nat.reduceBNe, Int.reduceLT, Int.reduceLE, Int.reduceEq, Int.reduceNe, Int.reduceAdd, Int.reduceSub, Int.reduceNeg, Int.reduceToNat, Int.reduceMul, ↓reduceIte, Int.reduceGT, Int.reduceGE] at hl'
      simp (disch := first | omega | (simp only [List.length_append, List.length_cons, List.length_nil, length_hset, length_hkill]; omega)) only [↓fsPre, fsPost, fsCond, fsGen, npick, nbin, nun, nconv, nnilCheck, noff, nidxArr, nidxSl, nfield, npart, nindex, nextract, nlenSl, nlenStr, ncap, mmx, minmax2, nslice, nsliceArr, nbounds, obound, bound, adv, nbits, eqVal, eqCell, eqCells, nfill, lenOfSl, cls, fresults, fresl, fres1, gt_iff_lt, ge_iff_le, reduceCtorEq, Nat.reduceAdd, Nat.reduceMul, Nat.reduceSub, Nat.reduceLT, Nat.reduceLeDiff, Nat.reduceEqDiff, Nat.reduceBEq, Nat.reduceBNe, Int.reduceLT, Int.reduceLE, Int.reduceEq, Int.reduceNe, Int.reduceAdd, Int.reduceSub, Int.reduceNeg, Int.reduceToNat, Int.reduceMul, ↓reduceIte, Int.reduceGT, Int.reduceGE, f0, f11, f12, f13, hb', hc', o1, o2, o3, o4, o5, o6, u3, hl']
      refine ⟨by omega, fun e he => ?_, hg'⟩
      rw [old' e he, hget_appl (by omega)]; exact ho e he
  · rintro F h ⟨f0, f11, f12, f13, hl, ho, hg⟩
    simp (disch := first | omega | (simp only [List.length_append, List.length_cons, List.length_nil, length_hset, length_hkill]; omega)) only [↓fsPre, fsPost, fsCond, fsGen, npick, nbin, nun, nconv, nnilCheck, noff, nidxArr, nidxSl, nfield, npart, nindex, nextract, nlenSl, nlenStr, ncap, mmx, minmax2, nslice, nsliceArr, nbounds, obound, bound, adv, nbits, eqVal, eqCell, eqCells, nfill, lenOfSl, cls, fresults, fresl, fres1, gt_iff_lt, ge_iff_le, reduceCtorEq, Nat.reduceAdd, Nat.reduceMul, Nat.reduceSub, Nat.reduceLT, Nat.reduceLeDiff, Nat.reduceEqDiff, Nat.reduceBEq, Nat.reduceBNe, Int.reduceLT, Int.reduceLE, Int.reduceEq, Int.reduceNe, Int.reduceAdd, Int.reduceSub, Int.reduceNeg, Int.reduceToNat, Int.reduceMul, ↓reduceIte, Int.reduceGT, Int.reduceGE, f0, f11, f12, f13]
    rcases hg with ⟨e, _⟩ | ⟨p, m, e3, hp, hpc, hlen, _⟩
    · cases e
    · have hm : m = 3 := by simp [usedCells] at hlen; omega
      subst hm
      exact ⟨p, e3, hpc, hl, ho⟩
theorem RowsOf.mono2 {h h' : Heap} {e b : Nat} {v : NV} (r : RowsOf h e v) (a : ∀ b' m c, v = .slice (some (b', 0)) m c → b' < b) (o : ∀ e, e ≤ b → hget h' e = hget h e) : RowsOf h' e v := by
  obtain ⟨a', n, c, rfl, h2, h3⟩ := r
  refine ⟨a', n, c, rfl, h2, fun hn => ?_⟩
  obtain ⟨b', cs, ro, rfl, g2, g3⟩ := h3 hn
  have := a b' n c rfl
  exact ⟨b', cs, ro, rfl, by rw [o _ (by omega)]; exact g2, g3⟩
theorem RSch.mono2 {h h' : Heap} {b : Nat} {q : Nat → Int} {z0 z1 z2 z3 z4 z5 z7 z8 z9 : NV} (r : RSch h b q z0 z1 z2 z3 z4 z5 z7 z8 z9) (o : ∀ e, e ≤ b → hget h' e = hget h e) : RSch h' b q z0 z1 z2 z3 z4 z5 z7 z8 z9 := by
  obtain ⟨ra, r0, r1, r2, r3, r4, r6, hz⟩ := r
  exact ⟨ra, r0.mono2 (ra _ (by simp)) o, r1.mono2 (ra _ (by simp)) o, r2.mono2 (ra _ (by simp)) o, r3.mono2 (ra _ (by simp)) o, r4.mono2 (ra _ (by simp)) o, r6.mono (o _ (Nat.le_refl _)), hz⟩

theorem ids4_at (t : Int) (h0 : 0 ≤ t) (h1 : t < 4) : ∃ id, ([NV.int .i64 1, .int .i64 2, .int .i64 7, .int .i64 3] : List NV)[t.toNat]? = some (.int .i64 id) ∧ (id = 1 ∨ id = 2 ∨ id = 7 ∨ id = 3) := by
  have : t = 0 ∨ t = 1 ∨ t = 2 ∨ t = 3 := by omega
  rcases this with rfl | rfl | rfl | rfl
  · exact ⟨1, rfl, .inl rfl⟩
  · exact ⟨2, rfl, .inr (.inl rfl)⟩
  · exact ⟨7, rfl, .inr (.inr (.inl rfl))⟩
  · exact ⟨3, rfl, .inr (.inr (.inr rfl))⟩

set_option maxHeartbeats 4000000 in
theorem calls_ok (H : Heap) (v w : NV) (xs ys : List Int) (hv : BytesArg H v xs) (hw : BytesArg H w ys) : NFun Try.prog 6 [v, w] H fun q => q.1 = .bool true := by
  have ov : v.one = true := by rcases hv with ⟨rfl, _⟩ | ⟨_, _, _, _, rfl, _⟩ <;> rfl
  refine fun_of_fwp E0 mixed t6_ok.2 (by kernel_rfl) ?_
  rw [fwp_T]
  simp only [t6]
  simp (disch := first | omega | (simp only [List.length_append, List.length_cons, List.length_nil, length_hset, length_hkill]; omega)) only [↓fsPre, fsPost, fsCond, fsGen, npick, nbin, nun, nconv, nnilCheck, noff, nidxArr, nidxSl, nfield, npart, nindex, nextract, nlenSl, nlenStr, ncap, mmx, minmax2, nslice, nsliceArr, nbounds, obound, bound, adv, nbits, eqVal, eqCell, eqCells, nfill, lenOfSl, cls, fresults, fresl, fres1, gt_iff_lt, ge_iff_le, reduceCtorEq, Nat.reduceAdd, Nat.reduceMul, Nat.reduceSub, Nat.reduceLT, Nat.reduceLeDiff, Nat.reduceEqDiff, Nat.reduceBEq, Nat.reduceBNe, Int.reduceLT, Int.reduceLE, Int.reduceEq, Int.reduceNe, Int.reduceAdd, Int.reduceSub, Int.reduceNeg, Int.reduceToNat, Int.reduceMul, ↓reduceIte, Int.reduceGT, Int.reduceGE]
  refine callT_D (codes_ok H v xs 120 hv (by omega)) rfl ?_
  rintro v1 g1 ⟨sl, m, e, hs⟩
  cases e
  simp (disch := first | omega | (simp only [List.length_append, List.length_cons, List.length_nil, length_hset, length_hkill]; omega)) only [↓fsPre, fsPost, fsCond, fsGen, npick, nbin, nun, nconv, nnilCheck, noff, nidxArr, nidxSl, nfield, npart, nindex, nextract, nlenSl, nlenStr, ncap, mmx, minmax2, nslice, nsliceArr, nbounds, obound, bound, adv, nbits, eqVal, eqCell, eqCells, nfill, lenOfSl, cls, fresults, fresl, fres1, gt_iff_lt, ge_iff_le, reduceCtorEq, Nat.reduceAdd, Nat.reduceMul, Nat.reduceSub, Nat.reduceLT, Nat.reduceLeDiff, Nat.reduceEqDiff, Nat.reduceBEq, Nat.reduceBNe, Int.reduceLT, Int.reduceLE, Int.reduceEq, Int.reduceNe, Int.reduceAdd, Int.reduceSub, Int.reduceNeg, Int.reduceToNat, Int.reduceMul, ↓reduceIte, Int.reduceGT, Int.reduceGE]
  refine callT_D (schema_ok _ _ m sl (CodesSt.refl hget_append_new (by omega) (by omega) hs)) rfl ?_
  rintro v2 g2 hq
  obtain ⟨b, q, z0, z1, z2, z3, z4, z5, z7, z8, z9, rfl, sch, hb, hqr, hg2, hold⟩ := hq.roles
  have hw2 : BytesArg g2 w ys := bytesArg_mono hw fun c hc => by rw [hold c (by simp; omega) (by omega), hget_appl hc]
  have hwB : ∀ b' m c', w = .slice (some (b', 0)) m c' → b' < g2.length := by
    intro b' m c' e
    rcases hw2 with ⟨e1, _⟩ | ⟨B, mm, cs, ro, e1, h1, _⟩
    · rw [e1] at e; cases e
    · rw [e1] at e; cases e; exact hget_lt h1
  obtain ⟨o0, o1, o2, o3, o4, o5, o7, o8, o9⟩ := sch.2.2.2.2.2.2.2
  clear hq hs hold
  simp (disch := first | omega | (simp only [List.length_append, List.length_cons, List.length_nil, length_hset, length_hkill]; omega)) only [↓fsPre, fsPost, fsCond, fsGen, npick, nbin, nun, nconv, nnilCheck, noff, nidxArr, nidxSl, nfield, npart, nindex, nextract, nlenSl, nlenStr, ncap, mmx, minmax2, nslice, nsliceArr, nbounds, obound, bound, adv, nbits, eqVal, eqCell, eqCells, nfill, lenOfSl, cls, fresults, fresl, fres1, gt_iff_lt, ge_iff_le, reduceCtorEq, Nat.reduceAdd, Nat.reduceMul, Nat.reduceSub, Nat.reduceLT, Nat.reduceLeDiff, Nat.reduceEqDiff, Nat.reduceBEq, Nat.reduceBNe, Int.reduceLT, Int.reduceLE, Int.reduceEq, Int.reduceNe, Int.reduceAdd, Int.reduceSub, Int.reduceNeg, Int.reduceToNat, Int.reduceMul, ↓reduceIte, Int.reduceGT, Int.reduceGE, o0, o1, o2, o3, o4, o5, o7, o8, o9]
  refine callT_D (cnew_ok _ b z0 z1 z2 z3 z4 z5 z7 z8 z9 ⟨o0, o1, o2, o3, o4, o5, o7, o8, o9⟩) rfl ?_
  rintro v3 g3 ⟨L1, c, e, hc, cnt1⟩
  cases e
  simp (disch := first | omega | (simp only [List.length_append, List.length_cons, List.length_nil, length_hset, length_hkill]; omega)) only [↓fsPre, fsPost, fsCond, fsGen, npick, nbin, nun, nconv, nnilCheck, noff, nidxArr, nidxSl, nfield, npart, nindex, nextract, nlenSl, nlenStr, ncap, mmx, minmax2, nslice, nsliceArr, nbounds, obound, bound, adv, nbits, eqVal, eqCell, eqCells, nfill, lenOfSl, cls, fresults, fresl, fres1, gt_iff_lt, ge_iff_le, reduceCtorEq, Nat.reduceAdd, Nat.reduceMul, Nat.reduceSub, Nat.reduceLT, Nat.reduceLeDiff, Nat.reduceEqDiff, Nat.reduceBEq, Nat.reduceBNe, Int.reduceLT, Int.reduceLE, Int.reduceEq, Int.reduceNe, Int.reduceAdd, Int.reduceSub, Int.reduceNeg, Int.reduceToNat, Int.reduceMul, ↓reduceIte, Int.reduceGT, Int.reduceGE, o0, o1, o2, o3, o4, o5, o7, o8, o9]
  have hcl := hget_some_lt cnt1
  simp only [List.length_append, List.length_cons, List.length_nil] at hc hcl
  have hbl := sch.2.2.2.2.2.2.1.lt
  have sch2 : RSch (g2 ++ some (.cells [z0, z1, z2, z3, z4, z5, .slice (some (b, 0)) 3 (.fix 3), z7, z8, z9] false) :: (L1 ++ [some (.cells [[NV.int IntKind.i64 0], [NV.int IntKind.i64 0], [NV.int IntKind.i64 0]].flatten false)])) b q z0 z1 z2 z3 z4 z5 z7 z8 z9 := sch.mono fun e he => hget_appl he
  have hw3 : BytesArg (g2 ++ some (.cells [z0, z1, z2, z3, z4, z5, .slice (some (b, 0)) 3 (.fix 3), z7, z8, z9] false) :: (L1 ++ [some (.cells [[NV.int IntKind.i64 0], [NV.int IntKind.i64 0], [NV.int IntKind.i64 0]].flatten false)])) w ys := bytesArg_mono hw2 fun e he => hget_appl he
  have cn : CntAt (g2 ++ some (.cells [z0, z1, z2, z3, z4, z5, .slice (some (b, 0)) 3 (.fix 3), z7, z8, z9] false) :: (L1 ++ [some (.cells [[NV.int IntKind.i64 0], [NV.int IntKind.i64 0], [NV.int IntKind.i64 0]].flatten false)])) c b (fun _ => 0) := by
    have : CntAt ((g2 ++ some (.cells [z0, z1, z2, z3, z4, z5, .slice (some (b, 0)) 3 (.fix 3), z7, z8, z9] false) :: L1) ++ [some (.cells [[NV.int IntKind.i64 0], [NV.int IntKind.i64 0], [NV.int IntKind.i64 0]].flatten false)]) c b (fun _ => 0) := by
      unfold CntAt
      rw [hget_appl (by simp; omega)]
      simpa [CntAt, List.append_assoc] using cnt1
    simpa [List.append_assoc] using this
  have hX : hget (g2 ++ some (.cells [z0, z1, z2, z3, z4, z5, .slice (some (b, 0)) 3 (.fix 3), z7, z8, z9] false) :: (L1 ++ [some (.cells [[NV.int IntKind.i64 0], [NV.int IntKind.i64 0], [NV.int IntKind.i64 0]].flatten false)])) g2.length = some (.cells [z0, z1, z2, z3, z4, z5, .slice (some (b, 0)) 3 (.fix 3), z7, z8, z9] false) := by simp (disch := first | omega | (simp only [List.length_append, List.length_cons, List.length_nil, length_hset, length_hkill]; omega)) only [↓fsPre, fsPost, fsCond, fsGen, npick, nbin, nun, nconv, nnilCheck, noff, nidxArr, nidxSl, nfield, npart, nindex, nextract, nlenSl, nlenStr, ncap, mmx, minmax2, nslice, nsliceArr, nbounds, obound, bound, adv, nbits, eqVal, eqCell, eqCells, nfill, lenOfSl, cls, fresults, fresl, fres1, gt_iff_lt, ge_iff_le, reduceCtorEq, Nat.reduceAdd, Nat.reduceMul, Nat.reduceSub, Nat.reduceLT, Nat.reduceLeDiff, Nat.reduceEqDiff, Nat.reduceBEq, Nat.reduceBNe, Int.reduceLT, Int.reduceLE, Int.reduceEq, Int.reduceNe, Int.reduceAdd, Int.reduceSub, Int.reduceNeg, Int.reduceToNat, Int.reduceMul, ↓reduceIte, Int.reduceGT, Int.reduceGE]
  have hWW : hget (g2 ++ some (.cells [z0, z1, z2, z3, z4, z5, .slice (some (b, 0)) 3 (.fix 3), z7, z8, z9] false) :: (L1 ++ [some (.cells [[NV.int IntKind.i64 0], [NV.int IntKind.i64 0], [NV.int IntKind.i64 0]].flatten false)])) (g2.length + (L1.length + 1)) = some (.cells [.int .i64 0, .int .i64 0, .int .i64 0] false) := by
    have : hget ((g2 ++ some (.cells [z0, z1, z2, z3, z4, z5, .slice (some (b, 0)) 3 (.fix 3), z7, z8, z9] false) :: L1) ++ [some (.cells [[NV.int IntKind.i64 0], [NV.int IntKind.i64 0], [NV.int IntKind.i64 0]].flatten false)]) (g2.length + (L1.length + 1)) = some (.cells [.int .i64 0, .int .i64 0, .int .i64 0] false) := by
      have h := hget_append_new (h := g2 ++ some (.cells [z0, z1, z2, z3, z4, z5, .slice (some (b, 0)) 3 (.fix 3), z7, z8, z9] false) :: L1) (o := some (.cells [[NV.int IntKind.i64 0], [NV.int IntKind.i64 0], [NV.int IntKind.i64 0]].flatten false))
      simp only [List.length_append, List.length_cons] at h
      rw [h]; rfl
    simpa [List.append_assoc] using this
  generalize hWd : g2.length + (L1.length + 1) = W at *
  generalize hXd : g2.length = X at *
  generalize hMd : g2 ++ some _ :: (L1 ++ _) = M at *
  have hcW : c < W := by omega
  have hXc : X < c := by omega
  have hbX : b < X := by omega
  have hcM := hget_some_lt cn
  have hWM := hget_some_lt hWW
  have hXM := hget_some_lt hX
  clear hMd cnt1 sch hw2 hc hcl hWd
  rcases hw3 with ⟨rfl, rfl⟩ | ⟨B, mm, cs, ro, rfl, w1, w2, w3, w4, w5⟩
  · simp (disch := first | omega | (simp only [List.length_append, List.length_cons, List.length_nil, length_hset, length_hkill]; omega)) only [↓fsPre, fsPost, fsCond, fsGen, npick, nbin, nun, nconv, nnilCheck, noff, nidxArr, nidxSl, nfield, npart, nindex, nextract, nlenSl, nlenStr, ncap, mmx, minmax2, nslice, nsliceArr, nbounds, obound, bound, adv, nbits, eqVal, eqCell, eqCells, nfill, lenOfSl, cls, fresults, fresl, fres1, gt_iff_lt, ge_iff_le, reduceCtorEq, Nat.reduceAdd, Nat.reduceMul, Nat.reduceSub, Nat.reduceLT, Nat.reduceLeDiff, Nat.reduceEqDiff, Nat.reduceBEq, Nat.reduceBNe, Int.reduceLT, Int.reduceLE, Int.reduceEq, Int.reduceNe, Int.reduceAdd, Int.reduceSub, Int.reduceNeg, Int.reduceToNat, Int.reduceMul, ↓reduceIte, Int.reduceGT, Int.reduceGE]
    refine wloop (fun j F h => F 5 = .ptr (some (X, 0)) ∧ F 6 = .ptr (some (c, 0)) ∧ F 7 = .slice (some (W, 0)) 3 (.fix 3) ∧ F 29 = .slice none 0 (.fix 0) ∧ F 30 = .int .i64 0 ∧ F 31 = .int .i64 j ∧ M.length ≤ h.length ∧ (∀ e, e < M.length → e ≠ c → e ≠ W → hget h e = hget M e) ∧ ∃ k, CntAt h c b k ∧ hget h W = some (.cells [.int .i64 (k 0), .int .i64 (k 1), .int .i64 (k 2)] false) ∧ (∀ i, 0 ≤ k i ∧ k i ≤ 40)) 0 ?_ (fun j F h hj => by omega) ?_
    · simp (disch := first | omega | (simp only [List.length_append, List.length_cons, List.length_nil, length_hset, length_hkill]; omega)) only [↓fsPre, fsPost, fsCond, fsGen, npick, nbin, nun, nconv, nnilCheck, noff, nidxArr, nidxSl, nfield, npart, nindex, nextract, nlenSl, nlenStr, ncap, mmx, minmax2, nslice, nsliceArr, nbounds, obound, bound, adv, nbits, eqVal, eqCell, eqCells, nfill, lenOfSl, cls, fresults, fresl, fres1, gt_iff_lt, ge_iff_le, reduceCtorEq, Nat.reduceAdd, Nat.reduceMul, Nat.reduceSub, Nat.reduceLT, Nat.reduceLeDiff, Nat.reduceEqDiff, Nat.reduceBEq, Nat.reduceBNe, Int.reduceLT, Int.reduceLE, Int.reduceEq, Int.reduceNe, Int.reduceAdd, Int.reduceSub, Int.reduceNeg, Int.reduceToNat, Int.reduceMul, ↓reduceIte, Int.reduceGT, Int.reduceGE]
      exact ⟨_, cn, hWW, fun _ => ⟨by omega, by omega⟩⟩
    rintro F h ⟨f5, f6, f7, f29, f30, f31, hl, ho, k, hk, hW, r1⟩
    simp (disch := first | omega | (simp only [List.length_append, List.length_cons, List.length_nil, length_hset, length_hkill]; omega)) only [↓fsPre, fsPost, fsCond, fsGen, npick, nbin, nun, nconv, nnilCheck, noff, nidxArr, nidxSl, nfield, npart, nindex, nextract, nlenSl, nlenStr, ncap, mmx, minmax2, nslice, nsliceArr, nbounds, obound, bound, adv, nbits, eqVal, eqCell, eqCells, nfill, lenOfSl, cls, fresults, fresl, fres1, gt_iff_lt, ge_iff_le, reduceCtorEq, Nat.reduceAdd, Nat.reduceMul, Nat.reduceSub, Nat.reduceLT, Nat.reduceLeDiff, Nat.reduceEqDiff, Nat.reduceBEq, Nat.reduceBNe, Int.reduceLT, Int.reduceLE, Int.reduceEq, Int.reduceNe, Int.reduceAdd, Int.reduceSub, Int.reduceNeg, Int.reduceToNat, Int.reduceMul, ↓reduceIte, Int.reduceGT, Int.reduceGE, f5, f6, f7, f29, f30, f31]
    refine callT_one (begun17_ok h) rfl ?_
    simp (disch := first | omega | (simp only [List.length_append, List.length_cons, List.length_nil, length_hset, length_hkill]; omega)) only [↓fsPre, fsPost, fsCond, fsGen, npick, nbin, nun, nconv, nnilCheck, noff, nidxArr, nidxSl, nfield, npart, nindex, nextract, nlenSl, nlenStr, ncap, mmx, minmax2, nslice, nsliceArr, nbounds, obound, bound, adv, nbits, eqVal, eqCell, eqCells, nfill, lenOfSl, cls, fresults, fresl, fres1, gt_iff_lt, ge_iff_le, reduceCtorEq, Nat.reduceAdd, Nat.reduceMul, Nat.reduceSub, Nat.reduceLT, Nat.reduceLeDiff, Nat.reduceEqDiff, Nat.reduceBEq, Nat.reduceBNe, Int.reduceLT, Int.reduceLE, Int.reduceEq, Int.reduceNe, Int.reduceAdd, Int.reduceSub, Int.reduceNeg, Int.reduceToNat, Int.reduceMul, ↓reduceIte, Int.reduceGT, Int.reduceGE]
  · have e1 : (if (120 : Int) < ys.length then (120 : Int) else ys.length) = (min 120 ys.length : Nat) := by split <;> omega
    have e2 : min 120 ys.length ≤ ys.length := by omega
    have e3 : min 120 ys.length ≤ 120 := by omega
    generalize min 120 ys.length = N at *
    have hBg := hwB _ _ _ rfl
    have hBM := hget_some_lt w1
    simp (disch := first | omega | (simp only [List.length_append, List.length_cons, List.length_nil, length_hset, length_hkill]; omega)) only [↓fsPre, fsPost, fsCond, fsGen, npick, nbin, nun, nconv, nnilCheck, noff, nidxArr, nidxSl, nfield, npart, nindex, nextract, nlenSl, nlenStr, ncap, mmx, minmax2, nslice, nsliceArr, nbounds, obound, bound, adv, nbits, eqVal, eqCell, eqCells, nfill, lenOfSl, cls, fresults, fresl, fres1, gt_iff_lt, ge_iff_le, reduceCtorEq, Nat.reduceAdd, Nat.reduceMul, Nat.reduceSub, Nat.reduceLT, Nat.reduceLeDiff, Nat.reduceEqDiff, Nat.reduceBEq, Nat.reduceBNe, Int.reduceLT, Int.reduceLE, Int.reduceEq, Int.reduceNe, Int.reduceAdd, Int.reduceSub, Int.reduceNeg, Int.reduceToNat, Int.reduceMul, ↓reduceIte, Int.reduceGT, Int.reduceGE, e1]
    refine wloop (fun j F h => F 5 = .ptr (some (X, 0)) ∧ F 6 = .ptr (some (c, 0)) ∧ F 7 = .slice (some (W, 0)) 3 (.fix 3) ∧ F 29 = .slice (some (B, 0)) N (.fix mm) ∧ F 30 = .int .i64 N ∧ F 31 = .int .i64 j ∧ M.length ≤ h.length ∧ (∀ e, e < M.length → e ≠ c → e ≠ W → hget h e = hget M e) ∧ ∃ k, CntAt h c b k ∧ hget h W = some (.cells [.int .i64 (k 0), .int .i64 (k 1), .int .i64 (k 2)] false) ∧ (∀ i, 0 ≤ k i ∧ k i ≤ 40)) N ?_ ?_ ?_
    · simp (disch := first | omega | (simp only [List.length_append, List.length_cons, List.length_nil, length_hset, length_hkill]; omega)) only [↓fsPre, fsPost, fsCond, fsGen, npick, nbin, nun, nconv, nnilCheck, noff, nidxArr, nidxSl, nfield, npart, nindex, nextract, nlenSl, nlenStr, ncap, mmx, minmax2, nslice, nsliceArr, nbounds, obound, bound, adv, nbits, eqVal, eqCell, eqCells, nfill, lenOfSl, cls, fresults, fresl, fres1, gt_iff_lt, ge_iff_le, reduceCtorEq, Nat.reduceAdd, Nat.reduceMul, Nat.reduceSub, Nat.reduceLT, Nat.reduceLeDiff, Nat.reduceEqDiff, Nat.reduceBEq, Nat.reduceBNe, Int.reduceLT, Int.reduceLE, Int.reduceEq, Int.reduceNe, Int.reduceAdd, Int.reduceSub, Int.reduceNeg, Int.reduceToNat, Int.reduceMul, ↓reduceIte, Int.reduceGT, Int.reduceGE]
      exact ⟨_, cn, hWW, fun _ => ⟨by omega, by omega⟩⟩
    · rintro j F h hj ⟨f5, f6, f7, f29, f30, f31, hl, ho, k, hk, hW, r1⟩
      have hB := (ho B hBM (by omega) (by omega)).trans w1
      have hX' := (ho X hXM (by omega) (by omega)).trans hX
      have g1 := w4 j (by omega)
      obtain ⟨x0, x1⟩ := w5 _ (List.getElem_mem (show j < ys.length by omega))
      generalize ys[j]'(by omega) = x at *
      have d0 : 0 ≤ x.tdiv 2 := Int.tdiv_nonneg x0 (by omega)
      have d1 : x.tdiv 2 ≤ x := Int.tdiv_le_self _ x0
      have d2 := Int.tmod_nonneg 4 d0
      have d3 := Int.tmod_lt_of_pos (x.tdiv 2) (show (0 : Int) < 4 by omega)
      have d4 := Int.tmod_nonneg 2 x0
      have d5 := Int.tmod_lt_of_pos x (show (0 : Int) < 2 by omega)
      obtain ⟨id, hids, hid⟩ := ids4_at _ d2 d3
      have qr : ∀ i, q i ≤ 40 := fun i => (hqr i).2
      simp (disch := first | omega | (simp only [List.length_append, List.length_cons, List.length_nil, length_hset, length_hkill]; omega)) only [↓fsPre, fsPost, fsCond, fsGen, npick, nbin, nun, nconv, nnilCheck, noff, nidxArr, nidxSl, nfield, npart, nindex, nextract, nlenSl, nlenStr, ncap, mmx, minmax2, nslice, nsliceArr, nbounds, obound, bound, adv, nbits, eqVal, eqCell, eqCells, nfill, lenOfSl, cls, fresults, fresl, fres1, gt_iff_lt, ge_iff_le, reduceCtorEq, Nat.reduceAdd, Nat.reduceMul, Nat.reduceSub, Nat.reduceLT, Nat.reduceLeDiff, Nat.reduceEqDiff, Nat.reduceBEq, Nat.reduceBNe, Int.reduceLT, Int.reduceLE, Int.reduceEq, Int.reduceNe, Int.reduceAdd, Int.reduceSub, Int.reduceNeg, Int.reduceToNat, Int.reduceMul, ↓reduceIte, Int.reduceGT, Int.reduceGE, f5, f6, f7, f29, f30, f31, hB, g1, hids, hX']
      have sh : RSch (h ++ [some (.cells [.int .i64 1, .int .i64 2, .int .i64 7, .int .i64 3] false)]) b q z0 z1 z2 z3 z4 z5 z7 z8 z9 := sch2.mono2 fun e he => by rw [hget_appl (by omega)]; exact ho e (by omega) (by omega) (by omega)
      obtain ⟨_, t0, t1, t2, t3, t4, rh2, th⟩ := sh
      have hk2 : CntAt (h ++ [some (.cells [.int .i64 1, .int .i64 2, .int .i64 7, .int .i64 3] false)]) c b k := (hget_appl (by omega)).trans hk
      have hW2 := (hget_appl (J := [some (.cells [.int .i64 1, .int .i64 2, .int .i64 7, .int .i64 3] false)]) (show W < h.length by omega)).trans hW
      have hX2 := (hget_appl (J := [some (.cells [.int .i64 1, .int .i64 2, .int .i64 7, .int .i64 3] false)]) (show X < h.length by omega)).trans hX'
      have ho2 : ∀ e, e < M.length → e ≠ c → e ≠ W → hget (h ++ [some (.cells [.int .i64 1, .int .i64 2, .int .i64 7, .int .i64 3] false)]) e = hget M e := fun e he n1 n2 => (hget_appl (by omega)).trans (ho e he n1 n2)
      have hl2 : M.length ≤ (h ++ [some (NBlk.cells [.int .i64 1, .int .i64 2, .int .i64 7, .int .i64 3] false)]).length := by rw [List.length_append]; omega
      refine callT_one (roleOf_ok _ b q id z0 z1 z2 z3 z4 z5 z7 z8 z9 t0 t1 t2 t3 t4 rh2 ⟨th.2.2.2.2.2.1, th.2.2.2.2.2.2.1, th.2.2.2.2.2.2.2.1, th.2.2.2.2.2.2.2.2⟩) rfl ?_
      generalize h ++ [some (NBlk.cells [.int .i64 1, .int .i64 2, .int .i64 7, .int .i64 3] false)] = h2 at *
      clear hl ho hk hW hB hX' t0 t1 t2 t3 t4
      have rh3 := rh2
      obtain ⟨s0, s1, s2, g0, a0, g1, a1, g3, a3, hrb, p1, p2, p3, p4, p5, p6⟩ := rh3
      have k0 := r1 0
      have k1 := r1 1
      have k2 := r1 2
      have q0 := qr 0
      have q1 := qr 1
      have q2 := qr 2
      simp (disch := first | omega | (simp only [List.length_append, List.length_cons, List.length_nil, length_hset, length_hkill]; omega)) only [↓fsPre, fsPost, fsCond, fsGen, npick, nbin, nun, nconv, nnilCheck, noff, nidxArr, nidxSl, nfield, npart, nindex, nextract, nlenSl, nlenStr, ncap, mmx, minmax2, nslice, nsliceArr, nbounds, obound, bound, adv, nbits, eqVal, eqCell, eqCells, nfill, lenOfSl, cls, fresults, fresl, fres1, gt_iff_lt, ge_iff_le, reduceCtorEq, Nat.reduceAdd, Nat.reduceMul, Nat.reduceSub, Nat.reduceLT, Nat.reduceLeDiff, Nat.reduceEqDiff, Nat.reduceBEq, Nat.reduceBNe, Int.reduceLT, Int.reduceLE, Int.reduceEq, Int.reduceNe, Int.reduceAdd, Int.reduceSub, Int.reduceNeg, Int.reduceToNat, Int.reduceMul, ↓reduceIte, Int.reduceGT, Int.reduceGE, f5, f6, f7, f29, f30, f31]
      refine condK_join (fun F h => F 5 = .ptr (some (X, 0)) ∧ F 6 = .ptr (some (c, 0)) ∧ F 7 = .slice (some (W, 0)) 3 (.fix 3) ∧ F 29 = .slice (some (B, 0)) N (.fix mm) ∧ F 30 = .int .i64 N ∧ F 31 = .int .i64 j ∧ M.length ≤ h.length ∧ (∀ e, e < M.length → e ≠ c → e ≠ W → hget h e = hget M e) ∧ ∃ k, CntAt h c b k ∧ hget h W = some (.cells [.int .i64 (k 0), .int .i64 (k 1), .int .i64 (k 2)] false) ∧ (∀ i, 0 ≤ k i ∧ k i ≤ 40)) ?_ ?_ ?_
      · intro hp
        rcases hid with rfl | rfl | rfl | rfl
        · have er : rix 1 = 0 := rfl
          rw [er]
          simp (disch := first | omega | (simp only [List.length_append, List.length_cons, List.length_nil, length_hset, length_hkill]; omega)) only [↓fsPre, fsPost, fsCond, fsGen, npick, nbin, nun, nconv, nnilCheck, noff, nidxArr, nidxSl, nfield, npart, nindex, nextract, nlenSl, nlenStr, ncap, mmx, minmax2, nslice, nsliceArr, nbounds, obound, bound, adv, nbits, eqVal, eqCell, eqCells, nfill, lenOfSl, cls, fresults, fresl, fres1, gt_iff_lt, ge_iff_le, reduceCtorEq, Nat.reduceAdd, Nat.reduceMul, Nat.reduceSub, Nat.reduceLT, Nat.reduceLeDiff, Nat.reduceEqDiff, Nat.reduceBEq, Nat.reduceBNe, Int.reduceLT, Int.reduceLE, Int.reduceEq, Int.reduceNe, Int.reduceAdd, Int.reduceSub, Int.reduceNeg, Int.reduceToNat, Int.reduceMul, ↓reduceIte, Int.reduceGT, Int.reduceGE, f5, f6, f7, f29, f30, f31, hW2, hX2, hrb]
          refine condK_dec (fun ht => ?_) (fun ht => ?_)
          · simp (disch := first | omega | (simp only [List.length_append, List.length_cons, List.length_nil, length_hset, length_hkill]; omega)) only [↓fsPre, fsPost, fsCond, fsGen, npick, nbin, nun, nconv, nnilCheck, noff, nidxArr, nidxSl, nfield, npart, nindex, nextract, nlenSl, nlenStr, ncap, mmx, minmax2, nslice, nsliceArr, nbounds, obound, bound, adv, nbits, eqVal, eqCell, eqCells, nfill, lenOfSl, cls, fresults, fresl, fres1, gt_iff_lt, ge_iff_le, reduceCtorEq, Nat.reduceAdd, Nat.reduceMul, Nat.reduceSub, Nat.reduceLT, Nat.reduceLeDiff, Nat.reduceEqDiff, Nat.reduceBEq, Nat.reduceBNe, Int.reduceLT, Int.reduceLE, Int.reduceEq, Int.reduceNe, Int.reduceAdd, Int.reduceSub, Int.reduceNeg, Int.reduceToNat, Int.reduceMul, ↓reduceIte, Int.reduceGT, Int.reduceGE, f5, f6, f7, f29, f30, f31, hW2]
            have hok : addOk q k 0 = true := by simp [addOk]; omega
            refine callT_D (addD _ c b q k 1 (rh2.mono (hget_hset_ne (by omega))) (by unfold CntAt; rw [hget_hset_ne (by omega)]; exact hk2) r1 qr) rfl ?_
            rintro v5 h5 ⟨e5, cc, l5, oo⟩
            have e5 : v5 = _ := e5
            have lw : h5.length = h2.length := l5.trans (by first | exact length_hset | rfl)
            have ck : CntAt h5 c b (stepA q k 0) := cc
            have ow : ∀ e, e ≠ c → hget h5 e = _ := oo
            rw [show rix 1 = 0 from rfl, hok] at e5
            subst e5
            have hb5 : stepA q k 0 = bump k 0 1 := by unfold stepA; rw [hok]; rfl
            rw [hb5] at ck
            simp (disch := first | omega | (simp only [List.length_append, List.length_cons, List.length_nil, length_hset, length_hkill]; omega)) only [↓fsPre, fsPost, fsCond, fsGen, npick, nbin, nun, nconv, nnilCheck, noff, nidxArr, nidxSl, nfield, npart, nindex, nextract, nlenSl, nlenStr, ncap, mmx, minmax2, nslice, nsliceArr, nbounds, obound, bound, adv, nbits, eqVal, eqCell, eqCells, nfill, lenOfSl, cls, fresults, fresl, fres1, gt_iff_lt, ge_iff_le, reduceCtorEq, Nat.reduceAdd, Nat.reduceMul, Nat.reduceSub, Nat.reduceLT, Nat.reduceLeDiff, Nat.reduceEqDiff, Nat.reduceBEq, Nat.reduceBNe, Int.reduceLT, Int.reduceLE, Int.reduceEq, Int.reduceNe, Int.reduceAdd, Int.reduceSub, Int.reduceNeg, Int.reduceToNat, Int.reduceMul, ↓reduceIte, Int.reduceGT, Int.reduceGE, f5, f6, f7, f29, f30, f31]
            exact ⟨by omega, fun e he n1 n2 => by rw [ow e n1, hget_hset_ne (Ne.symm n2)]; exact ho2 e he n1 n2, _, ck, by rw [ow W (by omega), hget_hset_same (by omega)]; simp [bump, Int.sub_eq_add_neg], by rw [← hb5]; exact stepA_range r1 qr⟩
          · simp (disch := first | omega | (simp only [List.length_append, List.length_cons, List.length_nil, length_hset, length_hkill]; omega)) only [↓fsPre, fsPost, fsCond, fsGen, npick, nbin, nun, nconv, nnilCheck, noff, nidxArr, nidxSl, nfield, npart, nindex, nextract, nlenSl, nlenStr, ncap, mmx, minmax2, nslice, nsliceArr, nbounds, obound, bound, adv, nbits, eqVal, eqCell, eqCells, nfill, lenOfSl, cls, fresults, fresl, fres1, gt_iff_lt, ge_iff_le, reduceCtorEq, Nat.reduceAdd, Nat.reduceMul, Nat.reduceSub, Nat.reduceLT, Nat.reduceLeDiff, Nat.reduceEqDiff, Nat.reduceBEq, Nat.reduceBNe, Int.reduceLT, Int.reduceLE, Int.reduceEq, Int.reduceNe, Int.reduceAdd, Int.reduceSub, Int.reduceNeg, Int.reduceToNat, Int.reduceMul, ↓reduceIte, Int.reduceGT, Int.reduceGE, f5, f6, f7, f29, f30, f31, hW2]
            have hok : addOk q k 0 = false := by simp [addOk]; omega
            refine callT_D (addD _ c b q k 1 rh2 hk2 r1 qr) rfl ?_
            rintro v5 h5 ⟨e5, cc, l5, oo⟩
            have e5 : v5 = _ := e5
            have lw : h5.length = h2.length := l5.trans (by first | exact length_hset | rfl)
            have ck : CntAt h5 c b (stepA q k 0) := cc
            have ow : ∀ e, e ≠ c → hget h5 e = _ := oo
            rw [show rix 1 = 0 from rfl, hok] at e5
            subst e5
            have hb5 : stepA q k 0 = k := by unfold stepA; rw [hok]; rfl
            rw [hb5] at ck
            simp (disch := first | omega | (simp only [List.length_append, List.length_cons, List.length_nil, length_hset, length_hkill]; omega)) only [↓fsPre, fsPost, fsCond, fsGen, npick, nbin, nun, nconv, nnilCheck, noff, nidxArr, nidxSl, nfield, npart, nindex, nextract, nlenSl, nlenStr, ncap, mmx, minmax2, nslice, nsliceArr, nbounds, obound, bound, adv, nbits, eqVal, eqCell, eqCells, nfill, lenOfSl, cls, fresults, fresl, fres1, gt_iff_lt, ge_iff_le, reduceCtorEq, Nat.reduceAdd, Nat.reduceMul, Nat.reduceSub, Nat.reduceLT, Nat.reduceLeDiff, Nat.reduceEqDiff, Nat.reduceBEq, Nat.reduceBNe, Int.reduceLT, Int.reduceLE, Int.reduceEq, Int.reduceNe, Int.reduceAdd, Int.reduceSub, Int.reduceNeg, Int.reduceToNat, Int.reduceMul, ↓reduceIte, Int.reduceGT, Int.reduceGE, f5, f6, f7, f29, f30, f31]
            exact ⟨by omega, fun e he n1 n2 => by rw [ow e n1]; exact ho2 e he n1 n2, _, ck, by rw [ow W (by omega)]; exact hW2, r1⟩
        · have er : rix 2 = 1 := rfl
          rw [er]
          simp (disch := first | omega | (simp only [List.length_append, List.length_cons, List.length_nil, length_hset, length_hkill]; omega)) only [↓fsPre, fsPost, fsCond, fsGen, npick, nbin, nun, nconv, nnilCheck, noff, nidxArr, nidxSl, nfield, npart, nindex, nextract, nlenSl, nlenStr, ncap, mmx, minmax2, nslice, nsliceArr, nbounds, obound, bound, adv, nbits, eqVal, eqCell, eqCells, nfill, lenOfSl, cls, fresults, fresl, fres1, gt_iff_lt, ge_iff_le, reduceCtorEq, Nat.reduceAdd, Nat.reduceMul, Nat.reduceSub, Nat.reduceLT, Nat.reduceLeDiff, Nat.reduceEqDiff, Nat.reduceBEq, Nat.reduceBNe, Int.reduceLT, Int.reduceLE, Int.reduceEq, Int.reduceNe, Int.reduceAdd, Int.reduceSub, Int.reduceNeg, Int.reduceToNat, Int.reduceMul, ↓reduceIte, Int.reduceGT, Int.reduceGE, f5, f6, f7, f29, f30, f31, hW2, hX2, hrb]
          refine condK_dec (fun ht => ?_) (fun ht => ?_)
          · simp (disch := first | omega | (simp only [List.length_append, List.length_cons, List.length_nil, length_hset, length_hkill]; omega)) only [↓fsPre, fsPost, fsCond, fsGen, npick, nbin, nun, nconv, nnilCheck, noff, nidxArr, nidxSl, nfield, npart, nindex, nextract, nlenSl, nlenStr, ncap, mmx, minmax2, nslice, nsliceArr, nbounds, obound, bound, adv, nbits, eqVal, eqCell, eqCells, nfill, lenOfSl, cls, fresults, fresl, fres1, gt_iff_lt, ge_iff_le, reduceCtorEq, Nat.reduceAdd, Nat.reduceMul, Nat.reduceSub, Nat.reduceLT, Nat.reduceLeDiff, Nat.reduceEqDiff, Nat.reduceBEq, Nat.reduceBNe, Int.reduceLT, Int.reduceLE, Int.reduceEq, Int.reduceNe, Int.reduceAdd, Int.reduceSub, Int.reduceNeg, Int.reduceToNat, Int.reduceMul, ↓reduceIte, Int.reduceGT, Int.reduceGE, f5, f6, f7, f29, f30, f31, hW2]
            have hok : addOk q k 1 = true := by simp [addOk]; omega
            refine callT_D (addD _ c b q k 2 (rh2.mono (hget_hset_ne (by omega))) (by unfold CntAt; rw [hget_hset_ne (by omega)]; exact hk2) r1 qr) rfl ?_
            rintro v5 h5 ⟨e5, cc, l5, oo⟩
            have e5 : v5 = _ := e5
            have lw : h5.length = h2.length := l5.trans (by first | exact length_hset | rfl)
            have ck : CntAt h5 c b (stepA q k 1) := cc
            have ow : ∀ e, e ≠ c → hget h5 e = _ := oo
            rw [show rix 2 = 1 from rfl, hok] at e5
            subst e5
            have hb5 : stepA q k 1 = bump k 1 1 := by unfold stepA; rw [hok]; rfl
            rw [hb5] at ck
            simp (disch := first | omega | (simp only [List.length_append, List.length_cons, List.length_nil, length_hset, length_hkill]; omega)) only [↓fsPre, fsPost, fsCond, fsGen, npick, nbin, nun, nconv, nnilCheck, noff, nidxArr, nidxSl, nfield, npart, nindex, nextract, nlenSl, nlenStr, ncap, mmx, minmax2, nslice, nsliceArr, nbounds, obound, bound, adv, nbits, eqVal, eqCell, eqCells, nfill, lenOfSl, cls, fresults, fresl, fres1, gt_iff_lt, ge_iff_le, reduceCtorEq, Nat.reduceAdd, Nat.reduceMul, Nat.reduceSub, Nat.reduceLT, Nat.reduceLeDiff, Nat.reduceEqDiff, Nat.reduceBEq, Nat.reduceBNe, Int.reduceLT, Int.reduceLE, Int.reduceEq, Int.reduceNe, Int.reduceAdd, Int.reduceSub, Int.reduceNeg, Int.reduceToNat, Int.reduceMul, ↓reduceIte, Int.reduceGT, Int.reduceGE, f5, f6, f7, f29, f30, f31]
            exact ⟨by omega, fun e he n1 n2 => by rw [ow e n1, hget_hset_ne (Ne.symm n2)]; exact ho2 e he n1 n2, _, ck, by rw [ow W (by omega), hget_hset_same (by omega)]; simp [bump, Int.sub_eq_add_neg], by rw [← hb5]; exact stepA_range r1 qr⟩
          · simp (disch := first | omega | (simp only [List.length_append, List.length_cons, List.length_nil, length_hset, length_hkill]; omega)) only [↓fsPre, fsPost, fsCond, fsGen, npick, nbin, nun, nconv, nnilCheck, noff, nidxArr, nidxSl, nfield, npart, nindex, nextract, nlenSl, nlenStr, ncap, mmx, minmax2, nslice, nsliceArr, nbounds, obound, bound, adv, nbits, eqVal, eqCell, eqCells, nfill, lenOfSl, cls, fresults, fresl, fres1, gt_iff_lt, ge_iff_le, reduceCtorEq, Nat.reduceAdd, Nat.reduceMul, Nat.reduceSub, Nat.reduceLT, Nat.reduceLeDiff, Nat.reduceEqDiff, Nat.reduceBEq, Nat.reduceBNe, Int.reduceLT, Int.reduceLE, Int.reduceEq, Int.reduceNe, Int.reduceAdd, Int.reduceSub, Int.reduceNeg, Int.reduceToNat, Int.reduceMul, ↓reduceIte, Int.reduceGT, Int.reduceGE, f5, f6, f7, f29, f30, f31, hW2]
            have hok : addOk q k 1 = false := by simp [addOk]; omega
            refine callT_D (addD _ c b q k 2 rh2 hk2 r1 qr) rfl ?_
            rintro v5 h5 ⟨e5, cc, l5, oo⟩
            have e5 : v5 = _ := e5
            have lw : h5.length = h2.length := l5.trans (by first | exact length_hset | rfl)
            have ck : CntAt h5 c b (stepA q k 1) := cc
            have ow : ∀ e, e ≠ c → hget h5 e = _ := oo
            rw [show rix 2 = 1 from rfl, hok] at e5
            subst e5
            have hb5 : stepA q k 1 = k := by unfold stepA; rw [hok]; rfl
            rw [hb5] at ck
            simp (disch := first | omega | (simp only [List.length_append, List.length_cons, List.length_nil, length_hset, length_hkill]; omega)) only [↓fsPre, fsPost, fsCond, fsGen, npick, nbin, nun, nconv, nnilCheck, noff, nidxArr, nidxSl, nfield, npart, nindex, nextract, nlenSl, nlenStr, ncap, mmx, minmax2, nslice, nsliceArr, nbounds, obound, bound, adv, nbits, eqVal, eqCell, eqCells, nfill, lenOfSl, cls, fresults, fresl, fres1, gt_iff_lt, ge_iff_le, reduceCtorEq, Nat.reduceAdd, Nat.reduceMul, Nat.reduceSub, Nat.reduceLT, Nat.reduceLeDiff, Nat.reduceEqDiff, Nat.reduceBEq, Nat.reduceBNe, Int.reduceLT, Int.reduceLE, Int.reduceEq, Int.reduceNe, Int.reduceAdd, Int.reduceSub, Int.reduceNeg, Int.reduceToNat, Int.reduceMul, ↓reduceIte, Int.reduceGT, Int.reduceGE, f5, f6, f7, f29, f30, f31]
            exact ⟨by omega, fun e he n1 n2 => by rw [ow e n1]; exact ho2 e he n1 n2, _, ck, by rw [ow W (by omega)]; exact hW2, r1⟩
        · have er : rix 7 = 2 := rfl
          rw [er]
          simp (disch := first | omega | (simp only [List.length_append, List.length_cons, List.length_nil, length_hset, length_hkill]; omega)) only [↓fsPre, fsPost, fsCond, fsGen, npick, nbin, nun, nconv, nnilCheck, noff, nidxArr, nidxSl, nfield, npart, nindex, nextract, nlenSl, nlenStr, ncap, mmx, minmax2, nslice, nsliceArr, nbounds, obound, bound, adv, nbits, eqVal, eqCell, eqCells, nfill, lenOfSl, cls, fresults, fresl, fres1, gt_iff_lt, ge_iff_le, reduceCtorEq, Nat.reduceAdd, Nat.reduceMul, Nat.reduceSub, Nat.reduceLT, Nat.reduceLeDiff, Nat.reduceEqDiff, Nat.reduceBEq, Nat.reduceBNe, Int.reduceLT, Int.reduceLE, Int.reduceEq, Int.reduceNe, Int.reduceAdd, Int.reduceSub, Int.reduceNeg, Int.reduceToNat, Int.reduceMul, ↓reduceIte, Int.reduceGT, Int.reduceGE, f5, f6, f7, f29, f30, f31, hW2, hX2, hrb]
          refine condK_dec (fun ht => ?_) (fun ht => ?_)
          · simp (disch := first | omega | (simp only [List.length_append, List.length_cons, List.length_nil, length_hset, length_hkill]; omega)) only [↓fsPre, fsPost, fsCond, fsGen, npick, nbin, nun, nconv, nnilCheck, noff, nidxArr, nidxSl, nfield, npart, nindex, nextract, nlenSl, nlenStr, ncap, mmx, minmax2, nslice, nsliceArr, nbounds, obound, bound, adv, nbits, eqVal, eqCell, eqCells, nfill, lenOfSl, cls, fresults, fresl, fres1, gt_iff_lt, ge_iff_le, reduceCtorEq, Nat.reduceAdd, Nat.reduceMul, Nat.reduceSub, Nat.reduceLT, Nat.reduceLeDiff, Nat.reduceEqDiff, Nat.reduceBEq, Nat.reduceBNe, Int.reduceLT, Int.reduceLE, Int.reduceEq, Int.reduceNe, Int.reduceAdd, Int.reduceSub, Int.reduceNeg, Int.reduceToNat, Int.reduceMul, ↓reduceIte, Int.reduceGT, Int.reduceGE, f5, f6, f7, f29, f30, f31, hW2]
            have hok : addOk q k 2 = true := by simp [addOk]; omega
            refine callT_D (addD _ c b q k 7 (rh2.mono (hget_hset_ne (by omega))) (by unfold CntAt; rw [hget_hset_ne (by omega)]; exact hk2) r1 qr) rfl ?_
            rintro v5 h5 ⟨e5, cc, l5, oo⟩
            have e5 : v5 = _ := e5
            have lw : h5.length = h2.length := l5.trans (by first | exact length_hset | rfl)
            have ck : CntAt h5 c b (stepA q k 2) := cc
            have ow : ∀ e, e ≠ c → hget h5 e = _ := oo
            rw [show rix 7 = 2 from rfl, hok] at e5
            subst e5
            have hb5 : stepA q k 2 = bump k 2 1 := by unfold stepA; rw [hok]; rfl
            rw [hb5] at ck
            simp (disch := first | omega | (simp only [List.length_append, List.length_cons, List.length_nil, length_hset, length_hkill]; omega)) only [↓fsPre, fsPost, fsCond, fsGen, npick, nbin, nun, nconv, nnilCheck, noff, nidxArr, nidxSl, nfield, npart, nindex, nextract, nlenSl, nlenStr, ncap, mmx, minmax2, nslice, nsliceArr, nbounds, obound, bound, adv, nbits, eqVal, eqCell, eqCells, nfill, lenOfSl, cls, fresults, fresl, fres1, gt_iff_lt, ge_iff_le, reduceCtorEq, Nat.reduceAdd, Nat.reduceMul, Nat.reduceSub, Nat.reduceLT, Nat.reduceLeDiff, Nat.reduceEqDiff, Nat.reduceBEq, Nat.reduceBNe, Int.reduceLT, Int.reduceLE, Int.reduceEq, Int.reduceNe, Int.reduceAdd, Int.reduceSub, Int.reduceNeg, Int.reduceToNat, Int.reduceMul, ↓reduceIte, Int.reduceGT, Int.reduceGE, f5, f6, f7, f29, f30, f31]
            exact ⟨by omega, fun e he n1 n2 => by rw [ow e n1, hget_hset_ne (Ne.symm n2)]; exact ho2 e he n1 n2, _, ck, by rw [ow W (by omega), hget_hset_same (by omega)]; simp [bump, Int.sub_eq_add_neg], by rw [← hb5]; exact stepA_range r1 qr⟩
          · simp (disch := first | omega | (simp only [List.length_append, List.length_cons, List.length_nil, length_hset, length_hkill]; omega)) only [↓fsPre, fsPost, fsCond, fsGen, npick, nbin, nun, nconv, nnilCheck, noff, nidxArr, nidxSl, nfield, npart, nindex, nextract, nlenSl, nlenStr, ncap, mmx, minmax2, nslice, nsliceArr, nbounds, obound, bound, adv, nbits, eqVal, eqCell, eqCells, nfill, lenOfSl, cls, fresults, fresl, fres1, gt_iff_lt, ge_iff_le, reduceCtorEq, Nat.reduceAdd, Nat.reduceMul, Nat.reduceSub, Nat.reduceLT, Nat.reduceLeDiff, Nat.reduceEqDiff, Nat.reduceBEq, Nat.reduceBNe, Int.reduceLT, Int.reduceLE, Int.reduceEq, Int.reduceNe, Int.reduceAdd, Int.reduceSub, Int.reduceNeg, Int.reduceToNat, Int.reduceMul, ↓reduceIte, Int.reduceGT, Int.reduceGE, f5, f6, f7, f29, f30, f31, hW2]
            have hok : addOk q k 2 = false := by simp [addOk]; omega
            refine callT_D (addD _ c b q k 7 rh2 hk2 r1 qr) rfl ?_
            rintro v5 h5 ⟨e5, cc, l5, oo⟩
            have e5 : v5 = _ := e5
            have lw : h5.length = h2.length := l5.trans (by first | exact length_hset | rfl)
            have ck : CntAt h5 c b (stepA q k 2) := cc
            have ow : ∀ e, e ≠ c → hget h5 e = _ := oo
            rw [show rix 7 = 2 from rfl, hok] at e5
            subst e5
            have hb5 : stepA q k 2 = k := by unfold stepA; rw [hok]; rfl
            rw [hb5] at ck
            simp (disch := first | omega | (simp only [List.length_append, List.length_cons, List.length_nil, length_hset, length_hkill]; omega)) only [↓fsPre, fsPost, fsCond, fsGen, npick, nbin, nun, nconv, nnilCheck, noff, nidxArr, nidxSl, nfield, npart, nindex, nextract, nlenSl, nlenStr, ncap, mmx, minmax2, nslice, nsliceArr, nbounds, obound, bound, adv, nbits, eqVal, eqCell, eqCells, nfill, lenOfSl, cls, fresults, fresl, fres1, gt_iff_lt, ge_iff_le, reduceCtorEq, Nat.reduceAdd, Nat.reduceMul, Nat.reduceSub, Nat.reduceLT, Nat.reduceLeDiff, Nat.reduceEqDiff, Nat.reduceBEq, Nat.reduceBNe, Int.reduceLT, Int.reduceLE, Int.reduceEq, Int.reduceNe, Int.reduceAdd, Int.reduceSub, Int.reduceNeg, Int.reduceToNat, Int.reduceMul, ↓reduceIte, Int.reduceGT, Int.reduceGE, f5, f6, f7, f29, f30, f31]
            exact ⟨by omega, fun e he n1 n2 => by rw [ow e n1]; exact ho2 e he n1 n2, _, ck, by rw [ow W (by omega)]; exact hW2, r1⟩
        · have er : rix 3 = -1 := rfl
          rw [er]
          simp (disch := first | omega | (simp only [List.length_append, List.length_cons, List.length_nil, length_hset, length_hkill]; omega)) only [↓fsPre, fsPost, fsCond, fsGen, npick, nbin, nun, nconv, nnilCheck, noff, nidxArr, nidxSl, nfield, npart, nindex, nextract, nlenSl, nlenStr, ncap, mmx, minmax2, nslice, nsliceArr, nbounds, obound, bound, adv, nbits, eqVal, eqCell, eqCells, nfill, lenOfSl, cls, fresults, fresl, fres1, gt_iff_lt, ge_iff_le, reduceCtorEq, Nat.reduceAdd, Nat.reduceMul, Nat.reduceSub, Nat.reduceLT, Nat.reduceLeDiff, Nat.reduceEqDiff, Nat.reduceBEq, Nat.reduceBNe, Int.reduceLT, Int.reduceLE, Int.reduceEq, Int.reduceNe, Int.reduceAdd, Int.reduceSub, Int.reduceNeg, Int.reduceToNat, Int.reduceMul, ↓reduceIte, Int.reduceGT, Int.reduceGE, f5, f6, f7, f29, f30, f31, hW2, hX2, hrb, nbool_undef, guardK_none]
          have hok : addOk q k (-1) = false := by simp [addOk]
          refine callT_D (addD _ c b q k 3 rh2 hk2 r1 qr) rfl ?_
          rintro v5 h5 ⟨e5, cc, l5, oo⟩
          have e5 : v5 = _ := e5
          have lw : h5.length = h2.length := l5
          have ck : CntAt h5 c b (stepA q k (-1)) := cc
          have ow : ∀ e, e ≠ c → hget h5 e = _ := oo
          rw [show rix 3 = -1 from rfl, hok] at e5
          subst e5
          have hb5 : stepA q k (-1) = k := by unfold stepA; rw [hok]; rfl
          rw [hb5] at ck
          simp (disch := first | omega | (simp only [List.length_append, List.length_cons, List.length_nil, length_hset, length_hkill]; omega)) only [↓fsPre, fsPost, fsCond, fsGen, npick, nbin, nun, nconv, nnilCheck, noff, nidxArr, nidxSl, nfield, npart, nindex, nextract, nlenSl, nlenStr, ncap, mmx, minmax2, nslice, nsliceArr, nbounds, obound, bound, adv, nbits, eqVal, eqCell, eqCells, nfill, lenOfSl, cls, fresults, fresl, fres1, gt_iff_lt, ge_iff_le, reduceCtorEq, Nat.reduceAdd, Nat.reduceMul, Nat.reduceSub, Nat.reduceLT, Nat.reduceLeDiff, Nat.reduceEqDiff, Nat.reduceBEq, Nat.reduceBNe, Int.reduceLT, Int.reduceLE, Int.reduceEq, Int.reduceNe, Int.reduceAdd, Int.reduceSub, Int.reduceNeg, Int.reduceToNat, Int.reduceMul, ↓reduceIte, Int.reduceGT, Int.reduceGE, f5, f6, f7, f29, f30, f31]
          exact ⟨by omega, fun e he n1 n2 => by rw [ow e n1]; exact ho2 e he n1 n2, _, ck, by rw [ow W (by omega)]; exact hW2, r1⟩
      · intro hp
        rcases hid with rfl | rfl | rfl | rfl
        · have er : rix 1 = 0 := rfl
          rw [er]
          simp (disch := first | omega | (simp only [List.length_append, List.length_cons, List.length_nil, length_hset, length_hkill]; omega)) only [↓fsPre, fsPost, fsCond, fsGen, npick, nbin, nun, nconv, nnilCheck, noff, nidxArr, nidxSl, nfield, npart, nindex, nextract, nlenSl, nlenStr, ncap, mmx, minmax2, nslice, nsliceArr, nbounds, obound, bound, adv, nbits, eqVal, eqCell, eqCells, nfill, lenOfSl, cls, fresults, fresl, fres1, gt_iff_lt, ge_iff_le, reduceCtorEq, Nat.reduceAdd, Nat.reduceMul, Nat.reduceSub, Nat.reduceLT, Nat.reduceLeDiff, Nat.reduceEqDiff, Nat.reduceBEq, Nat.reduceBNe, Int.reduceLT, Int.reduceLE, Int.reduceEq, Int.reduceNe, Int.reduceAdd, Int.reduceSub, Int.reduceNeg, Int.reduceToNat, Int.reduceMul, ↓reduceIte, Int.reduceGT, Int.reduceGE, f5, f6, f7, f29, f30, f31, hW2, hX2, hrb]
          refine condK_dec (fun ht => ?_) (fun ht => ?_)
          · simp (disch := first | omega | (simp only [List.length_append, List.length_cons, List.length_nil, length_hset, length_hkill]; omega)) only [↓fsPre, fsPost, fsCond, fsGen, npick, nbin, nun, nconv, nnilCheck, noff, nidxArr, nidxSl, nfield, npart, nindex, nextract, nlenSl, nlenStr, ncap, mmx, minmax2, nslice, nsliceArr, nbounds, obound, bound, adv, nbits, eqVal, eqCell, eqCells, nfill, lenOfSl, cls, fresults, fresl, fres1, gt_iff_lt, ge_iff_le, reduceCtorEq, Nat.reduceAdd, Nat.reduceMul, Nat.reduceSub, Nat.reduceLT, Nat.reduceLeDiff, Nat.reduceEqDiff, Nat.reduceBEq, Nat.reduceBNe, Int.reduceLT, Int.reduceLE, Int.reduceEq, Int.reduceNe, Int.reduceAdd, Int.reduceSub, Int.reduceNeg, Int.reduceToNat, Int.reduceMul, ↓reduceIte, Int.reduceGT, Int.reduceGE, f5, f6, f7, f29, f30, f31, hW2]
            have hok : dropOk k 0 = true := by simp [dropOk]; omega
            refine callT_D (dropD _ c b q k 1 (rh2.mono (hget_hset_ne (by omega))) (by unfold CntAt; rw [hget_hset_ne (by omega)]; exact hk2) r1 qr) rfl ?_
            rintro v5 h5 ⟨e5, cc, l5, oo⟩
            have e5 : v5 = _ := e5
            have lw : h5.length = h2.length := l5.trans (by first | exact length_hset | rfl)
            have ck : CntAt h5 c b (stepD k 0) := cc
            have ow : ∀ e, e ≠ c → hget h5 e = _ := oo
            rw [show rix 1 = 0 from rfl, hok] at e5
            subst e5
            have hb5 : stepD k 0 = bump k 0 (-1) := by unfold stepD; rw [hok]; rfl
            rw [hb5] at ck
            simp (disch := first | omega | (simp only [List.length_append, List.length_cons, List.length_nil, length_hset, length_hkill]; omega)) only [↓fsPre, fsPost, fsCond, fsGen, npick, nbin, nun, nconv, nnilCheck, noff, nidxArr, nidxSl, nfield, npart, nindex, nextract, nlenSl, nlenStr, ncap, mmx, minmax2, nslice, nsliceArr, nbounds, obound, bound, adv, nbits, eqVal, eqCell, eqCells, nfill, lenOfSl, cls, fresults, fresl, fres1, gt_iff_lt, ge_iff_le, reduceCtorEq, Nat.reduceAdd, Nat.reduceMul, Nat.reduceSub, Nat.reduceLT, Nat.reduceLeDiff, Nat.reduceEqDiff, Nat.reduceBEq, Nat.reduceBNe, Int.reduceLT, Int.reduceLE, Int.reduceEq, Int.reduceNe, Int.reduceAdd, Int.reduceSub, Int.reduceNeg, Int.reduceToNat, Int.reduceMul, ↓reduceIte, Int.reduceGT, Int.reduceGE, f5, f6, f7, f29, f30, f31]
            exact ⟨by omega, fun e he n1 n2 => by rw [ow e n1, hget_hset_ne (Ne.symm n2)]; exact ho2 e he n1 n2, _, ck, by rw [ow W (by omega), hget_hset_same (by omega)]; simp [bump, Int.sub_eq_add_neg], by rw [← hb5]; exact stepD_range r1⟩
          · simp (disch := first | omega | (simp only [List.length_append, List.length_cons, List.length_nil, length_hset, length_hkill]; omega)) only [↓fsPre, fsPost, fsCond, fsGen, npick, nbin, nun, nconv, nnilCheck, noff, nidxArr, nidxSl, nfield, npart, nindex, nextract, nlenSl, nlenStr, ncap, mmx, minmax2, nslice, nsliceArr, nbounds, obound, bound, adv, nbits, eqVal, eqCell, eqCells, nfill, lenOfSl, cls, fresults, fresl, fres1, gt_iff_lt, ge_iff_le, reduceCtorEq, Nat.reduceAdd, Nat.reduceMul, Nat.reduceSub, Nat.reduceLT, Nat.reduceLeDiff, Nat.reduceEqDiff, Nat.reduceBEq, Nat.reduceBNe, Int.reduceLT, Int.reduceLE, Int.reduceEq, Int.reduceNe, Int.reduceAdd, Int.reduceSub, Int.reduceNeg, Int.reduceToNat, Int.reduceMul, ↓reduceIte, Int.reduceGT, Int.reduceGE, f5, f6, f7, f29, f30, f31, hW2]
            have hok : dropOk k 0 = false := by simp [dropOk]; omega
            refine callT_D (dropD _ c b q k 1 rh2 hk2 r1 qr) rfl ?_
            rintro v5 h5 ⟨e5, cc, l5, oo⟩
            have e5 : v5 = _ := e5
            have lw : h5.length = h2.length := l5.trans (by first | exact length_hset | rfl)
            have ck : CntAt h5 c b (stepD k 0) := cc
            have ow : ∀ e, e ≠ c → hget h5 e = _ := oo
            rw [show rix 1 = 0 from rfl, hok] at e5
            subst e5
            have hb5 : stepD k 0 = k := by unfold stepD; rw [hok]; rfl
            rw [hb5] at ck
            simp (disch := first | omega | (simp only [List.length_append, List.length_cons, List.length_nil, length_hset, length_hkill]; omega)) only [↓fsPre, fsPost, fsCond, fsGen, npick, nbin, nun, nconv, nnilCheck, noff, nidxArr, nidxSl, nfield, npart, nindex, nextract, nlenSl, nlenStr, ncap, mmx, minmax2, nslice, nsliceArr, nbounds, obound, bound, adv, nbits, eqVal, eqCell, eqCells, nfill, lenOfSl, cls, fresults, fresl, fres1, gt_iff_lt, ge_iff_le, reduceCtorEq, Nat.reduceAdd, Nat.reduceMul, Nat.reduceSub, Nat.reduceLT, Nat.reduceLeDiff, Nat.reduceEqDiff, Nat.reduceBEq, Nat.reduceBNe, Int.reduceLT, Int.reduceLE, Int.reduceEq, Int.reduceNe, Int.reduceAdd, Int.reduceSub, Int.reduceNeg, Int.reduceToNat, Int.reduceMul, ↓reduceIte, Int.reduceGT, Int.reduceGE, f5, f6, f7, f29, f30, f31]
            exact ⟨by omega, fun e he n1 n2 => by rw [ow e n1]; exact ho2 e he n1 n2, _, ck, by rw [ow W (by omega)]; exact hW2, r1⟩
        · have er : rix 2 = 1 := rfl
          rw [er]
          simp (disch := first | omega | (simp only [List.length_append, List.length_cons, List.length_nil, length_hset, length_hkill]; omega)) only [↓fsPre, fsPost, fsCond, fsGen, npick, nbin, nun, nconv, nnilCheck, noff, nidxArr, nidxSl, nfield, npart, nindex, nextract, nlenSl, nlenStr, ncap, mmx, minmax2, nslice, nsliceArr, nbounds, obound, bound, adv, nbits, eqVal, eqCell, eqCells, nfill, lenOfSl, cls, fresults, fresl, fres1, gt_iff_lt, ge_iff_le, reduceCtorEq, Nat.reduceAdd, Nat.reduceMul, Nat.reduceSub, Nat.reduceLT, Nat.reduceLeDiff, Nat.reduceEqDiff, Nat.reduceBEq, Nat.reduceBNe, Int.reduceLT, Int.reduceLE, Int.reduceEq, Int.reduceNe, Int.reduceAdd, Int.reduceSub, Int.reduceNeg, Int.reduceToNat, Int.reduceMul, ↓reduceIte, Int.reduceGT, Int.reduceGE, f5, f6, f7, f29, f30, f31, hW2, hX2, hrb]
          refine condK_dec (fun ht => ?_) (fun ht => ?_)
          · simp (disch := first | omega | (simp only [List.length_append, List.length_cons, List.length_nil, length_hset, length_hkill]; omega)) only [↓fsPre, fsPost, fsCond, fsGen, npick, nbin, nun, nconv, nnilCheck, noff, nidxArr, nidxSl, nfield, npart, nindex, nextract, nlenSl, nlenStr, ncap, mmx, minmax2, nslice, nsliceArr, nbounds, obound, bound, adv, nbits, eqVal, eqCell, eqCells, nfill, lenOfSl, cls, fresults, fresl, fres1, gt_iff_lt, ge_iff_le, reduceCtorEq, Nat.reduceAdd, Nat.reduceMul, Nat.reduceSub, Nat.reduceLT, Nat.reduceLeDiff, Nat.reduceEqDiff, Nat.reduceBEq, Nat.reduceBNe, Int.reduceLT, Int.reduceLE, Int.reduceEq, Int.reduceNe, Int.reduceAdd, Int.reduceSub, Int.reduceNeg, Int.reduceToNat, Int.reduceMul, ↓reduceIte, Int.reduceGT, Int.reduceGE, f5, f6, f7, f29, f30, f31, hW2]
            have hok : dropOk k 1 = true := by simp [dropOk]; omega
            refine callT_D (dropD _ c b q k 2 (rh2.mono (hget_hset_ne (by omega))) (by unfold CntAt; rw [hget_hset_ne (by omega)]; exact hk2) r1 qr) rfl ?_
            rintro v5 h5 ⟨e5, cc, l5, oo⟩
            have e5 : v5 = _ := e5
            have lw : h5.length = h2.length := l5.trans (by first | exact length_hset | rfl)
            have ck : CntAt h5 c b (stepD k 1) := cc
            have ow : ∀ e, e ≠ c → hget h5 e = _ := oo
            rw [show rix 2 = 1 from rfl, hok] at e5
            subst e5
            have hb5 : stepD k 1 = bump k 1 (-1) := by unfold stepD; rw [hok]; rfl
            rw [hb5] at ck
            simp (disch := first | omega | (simp only [List.length_append, List.length_cons, List.length_nil, length_hset, length_hkill]; omega)) only [↓fsPre, fsPost, fsCond, fsGen, npick, nbin, nun, nconv, nnilCheck, noff, nidxArr, nidxSl, nfield, npart, nindex, nextract, nlenSl, nlenStr, ncap, mmx, minmax2, nslice, nsliceArr, nbounds, obound, bound, adv, nbits, eqVal, eqCell, eqCells, nfill, lenOfSl, cls, fresults, fresl, fres1, gt_iff_lt, ge_iff_le, reduceCtorEq, Nat.reduceAdd, Nat.reduceMul, Nat.reduceSub, Nat.reduceLT, Nat.reduceLeDiff, Nat.reduceEqDiff, Nat.reduceBEq, Nat.reduceBNe, Int.reduceLT, Int.reduceLE, Int.reduceEq, Int.reduceNe, Int.reduceAdd, Int.reduceSub, Int.reduceNeg, Int.reduceToNat, Int.reduceMul, ↓reduceIte, Int.reduceGT, Int.reduceGE, f5, f6, f7, f29, f30, f31]
            exact ⟨by omega, fun e he n1 n2 => by rw [ow e n1, hget_hset_ne (Ne.symm n2)]; exact ho2 e he n1 n2, _, ck, by rw [ow W (by omega), hget_hset_same (by omega)]; simp [bump, Int.sub_eq_add_neg], by rw [← hb5]; exact stepD_range r1⟩
          · simp (disch := first | omega | (simp only [List.length_append, List.length_cons, List.length_nil, length_hset, length_hkill]; omega)) only [↓fsPre, fsPost, fsCond, fsGen, npick, nbin, nun, nconv, nnilCheck, noff, nidxArr, nidxSl, nfield, npart, nindex, nextract, nlenSl, nlenStr, ncap, mmx, minmax2, nslice, nsliceArr, nbounds, obound, bound, adv, nbits, eqVal, eqCell, eqCells, nfill, lenOfSl, cls, fresults, fresl, fres1, gt_iff_lt, ge_iff_le, reduceCtorEq, Nat.reduceAdd, Nat.reduceMul, Nat.reduceSub, Nat.reduceLT, Nat.reduceLeDiff, Nat.reduceEqDiff, Nat.reduceBEq, Nat.reduceBNe, Int.reduceLT, Int.reduceLE, Int.reduceEq, Int.reduceNe, Int.reduceAdd, Int.reduceSub, Int.reduceNeg, Int.reduceToNat, Int.reduceMul, ↓reduceIte, Int.reduceGT, Int.reduceGE, f5, f6, f7, f29, f30, f31, hW2]
            have hok : dropOk k 1 = false := by simp [dropOk]; omega
            refine callT_D (dropD _ c b q k 2 rh2 hk2 r1 qr) rfl ?_
            rintro v5 h5 ⟨e5, cc, l5, oo⟩
            have e5 : v5 = _ := e5
            have lw : h5.length = h2.length := l5.trans (by first | exact length_hset | rfl)
            have ck : CntAt h5 c b (stepD k 1) := cc
            have ow : ∀ e, e ≠ c → hget h5 e = _ := oo
            rw [show rix 2 = 1 from rfl, hok] at e5
            subst e5
            have hb5 : stepD k 1 = k := by unfold stepD; rw [hok]; rfl
            rw [hb5] at ck
            simp (disch := first | omega | (simp only [List.length_append, List.length_cons, List.length_nil, length_hset, length_hkill]; omega)) only [↓fsPre, fsPost, fsCond, fsGen, npick, nbin, nun, nconv, nnilCheck, noff, nidxArr, nidxSl, nfield, npart, nindex, nextract, nlenSl, nlenStr, ncap, mmx, minmax2, nslice, nsliceArr, nbounds, obound, bound, adv, nbits, eqVal, eqCell, eqCells, nfill, lenOfSl, cls, fresults, fresl, fres1, gt_iff_lt, ge_iff_le, reduceCtorEq, Nat.reduceAdd, Nat.reduceMul, Nat.reduceSub, Nat.reduceLT, Nat.reduceLeDiff, Nat.reduceEqDiff, Nat.reduceBEq, Nat.reduceBNe, Int.reduceLT, Int.reduceLE, Int.reduceEq, Int.reduceNe, Int.reduceAdd, Int.reduceSub, Int.reduceNeg, Int.reduceToNat, Int.reduceMul, ↓reduceIte, Int.reduceGT, Int.reduceGE, f5, f6, f7, f29, f30, f31]
            exact ⟨by omega, fun e he n1 n2 => by rw [ow e n1]; exact ho2 e he n1 n2, _, ck, by rw [ow W (by omega)]; exact hW2, r1⟩
        · have er : rix 7 = 2 := rfl
          rw [er]
          simp (disch := first | omega | (simp only [List.length_append, List.length_cons, List.length_nil, length_hset, length_hkill]; omega)) only [↓fsPre, fsPost, fsCond, fsGen, npick, nbin, nun, nconv, nnilCheck, noff, nidxArr, nidxSl, nfield, npart, nindex, nextract, nlenSl, nlenStr, ncap, mmx, minmax2, nslice, nsliceArr, nbounds, obound, bound, adv, nbits, eqVal, eqCell, eqCells, nfill, lenOfSl, cls, fresults, fresl, fres1, gt_iff_lt, ge_iff_le, reduceCtorEq, Nat.reduceAdd, Nat.reduceMul, Nat.reduceSub, Nat.reduceLT, Nat.reduceLeDiff, Nat.reduceEqDiff, Nat.reduceBEq, Nat.reduceBNe, Int.reduceLT, Int.reduceLE, Int.reduceEq, Int.reduceNe, Int.reduceAdd, Int.reduceSub, Int.reduceNeg, Int.reduceToNat, Int.reduceMul, ↓reduceIte, Int.reduceGT, Int.reduceGE, f5, f6, f7, f29, f30, f31, hW2, hX2, hrb]
          refine condK_dec (fun ht => ?_) (fun ht => ?_)
          · simp (disch := first | omega | (simp only [List.length_append, List.length_cons, List.length_nil, length_hset, length_hkill]; omega)) only [↓fsPre, fsPost, fsCond, fsGen, npick, nbin, nun, nconv, nnilCheck, noff, nidxArr, nidxSl, nfield, npart, nindex, nextract, nlenSl, nlenStr, ncap, mmx, minmax2, nslice, nsliceArr, nbounds, obound, bound, adv, nbits, eqVal, eqCell, eqCells, nfill, lenOfSl, cls, fresults, fresl, fres1, gt_iff_lt, ge_iff_le, reduceCtorEq, Nat.reduceAdd, Nat.reduceMul, Nat.reduceSub, Nat.reduceLT, Nat.reduceLeDiff, Nat.reduceEqDiff, Nat.reduceBEq, Nat.reduceBNe, Int.reduceLT, Int.reduceLE, Int.reduceEq, Int.reduceNe, Int.reduceAdd, Int.reduceSub, Int.reduceNeg, Int.reduceToNat, Int.reduceMul, ↓reduceIte, Int.reduceGT, Int.reduceGE, f5, f6, f7, f29, f30, f31, hW2]
            have hok : dropOk k 2 = true := by simp [dropOk]; omega
            refine callT_D (dropD _ c b q k 7 (rh2.mono (hget_hset_ne (by omega))) (by unfold CntAt; rw [hget_hset_ne (by omega)]; exact hk2) r1 qr) rfl ?_
            rintro v5 h5 ⟨e5, cc, l5, oo⟩
            have e5 : v5 = _ := e5
            have lw : h5.length = h2.length := l5.trans (by first | exact length_hset | rfl)
            have ck : CntAt h5 c b (stepD k 2) := cc
            have ow : ∀ e, e ≠ c → hget h5 e = _ := oo
            rw [show rix 7 = 2 from rfl, hok] at e5
            subst e5
            have hb5 : stepD k 2 = bump k 2 (-1) := by unfold stepD; rw [hok]; rfl
            rw [hb5] at ck
            simp (disch := first | omega | (simp only [List.length_append, List.length_cons, List.length_nil, length_hset, length_hkill]; omega)) only [↓fsPre, fsPost, fsCond, fsGen, npick, nbin, nun, nconv, nnilCheck, noff, nidxArr, nidxSl, nfield, npart, nindex, nextract, nlenSl, nlenStr, ncap, mmx, minmax2, nslice, nsliceArr, nbounds, obound, bound, adv, nbits, eqVal, eqCell, eqCells, nfill, lenOfSl, cls, fresults, fresl, fres1, gt_iff_lt, ge_iff_le, reduceCtorEq, Nat.reduceAdd, Nat.reduceMul, Nat.reduceSub, Nat.reduceLT, Nat.reduceLeDiff, Nat.reduceEqDiff, Nat.reduceBEq, Nat.reduceBNe, Int.reduceLT, Int.reduceLE, Int.reduceEq, Int.reduceNe, Int.reduceAdd, Int.reduceSub, Int.reduceNeg, Int.reduceToNat, Int.reduceMul, ↓reduceIte, Int.reduceGT, Int.reduceGE, f5, f6, f7, f29, f30, f31]
            exact ⟨by omega, fun e he n1 n2 => by rw [ow e n1, hget_hset_ne (Ne.symm n2)]; exact ho2 e he n1 n2, _, ck, by rw [ow W (by omega), hget_hset_same (by omega)]; simp [bump, Int.sub_eq_add_neg], by rw [← hb5]; exact stepD_range r1⟩
          · simp (disch := first | omega | (simp only [List.length_append, List.length_cons, List.length_nil, length_hset, length_hkill]; omega)) only [↓fsPre, fsPost, fsCond, fsGen, npick, nbin, nun, nconv, nnilCheck, noff, nidxArr, nidxSl, nfield, npart, nindex, nextract, nlenSl, nlenStr, ncap, mmx, minmax2, nslice, nsliceArr, nbounds, obound, bound, adv, nbits, eqVal, eqCell, eqCells, nfill, lenOfSl, cls, fresults, fresl, fres1, gt_iff_lt, ge_iff_le, reduceCtorEq, Nat.reduceAdd, Nat.reduceMul, Nat.reduceSub, Nat.reduceLT, Nat.reduceLeDiff, Nat.reduceEqDiff, Nat.reduceBEq, Nat.reduceBNe, Int.reduceLT, Int.reduceLE, Int.reduceEq, Int.reduceNe, Int.reduceAdd, Int.reduceSub, Int.reduceNeg, Int.reduceToNat, Int.reduceMul, ↓reduceIte, Int.reduceGT, Int.reduceGE, f5, f6, f7, f29, f30, f31, hW2]
            have hok : dropOk k 2 = false := by simp [dropOk]; omega
            refine callT_D (dropD _ c b q k 7 rh2 hk2 r1 qr) rfl ?_
            rintro v5 h5 ⟨e5, cc, l5, oo⟩
            have e5 : v5 = _ := e5
            have lw : h5.length = h2.length := l5.trans (by first | exact length_hset | rfl)
            have ck : CntAt h5 c b (stepD k 2) := cc
            have ow : ∀ e, e ≠ c → hget h5 e = _ := oo
            rw [show rix 7 = 2 from rfl, hok] at e5
            subst e5
            have hb5 : stepD k 2 = k := by unfold stepD; rw [hok]; rfl
            rw [hb5] at ck
            simp (disch := first | omega | (simp only [List.length_append, List.length_cons, List.length_nil, length_hset, length_hkill]; omega)) only [↓fsPre, fsPost, fsCond, fsGen, npick, nbin, nun, nconv, nnilCheck, noff, nidxArr, nidxSl, nfield, npart, nindex, nextract, nlenSl, nlenStr, ncap, mmx, minmax2, nslice, nsliceArr, nbounds, obound, bound, adv, nbits, eqVal, eqCell, eqCells, nfill, lenOfSl, cls, fresults, fresl, fres1, gt_iff_lt, ge_iff_le, reduceCtorEq, Nat.reduceAdd, Nat.reduceMul, Nat.reduceSub, Nat.reduceLT, Nat.reduceLeDiff, Nat.reduceEqDiff, Nat.reduceBEq, Nat.reduceBNe, Int.reduceLT, Int.reduceLE, Int.reduceEq, Int.reduceNe, Int.reduceAdd, Int.reduceSub, Int.reduceNeg, Int.reduceToNat, Int.reduceMul, ↓reduceIte, Int.reduceGT, Int.reduceGE, f5, f6, f7, f29, f30, f31]
            exact ⟨by omega, fun e he n1 n2 => by rw [ow e n1]; exact ho2 e he n1 n2, _, ck, by rw [ow W (by omega)]; exact hW2, r1⟩
        · have er : rix 3 = -1 := rfl
          rw [er]
          simp (disch := first | omega | (simp only [List.length_append, List.length_cons, List.length_nil, length_hset, length_hkill]; omega)) only [↓fsPre, fsPost, fsCond, fsGen, npick, nbin, nun, nconv, nnilCheck, noff, nidxArr, nidxSl, nfield, npart, nindex, nextract, nlenSl, nlenStr, ncap, mmx, minmax2, nslice, nsliceArr, nbounds, obound, bound, adv, nbits, eqVal, eqCell, eqCells, nfill, lenOfSl, cls, fresults, fresl, fres1, gt_iff_lt, ge_iff_le, reduceCtorEq, Nat.reduceAdd, Nat.reduceMul, Nat.reduceSub, Nat.reduceLT, Nat.reduceLeDiff, Nat.reduceEqDiff, Nat.reduceBEq, Nat.reduceBNe, Int.reduceLT, Int.reduceLE, Int.reduceEq, Int.reduceNe, Int.reduceAdd, Int.reduceSub, Int.reduceNeg, Int.reduceToNat, Int.reduceMul, ↓reduceIte, Int.reduceGT, Int.reduceGE, f5, f6, f7, f29, f30, f31, hW2, hX2, hrb, nbool_undef, guardK_none]
          have hok : dropOk k (-1) = false := by simp [dropOk]
          refine callT_D (dropD _ c b q k 3 rh2 hk2 r1 qr) rfl ?_
          rintro v5 h5 ⟨e5, cc, l5, oo⟩
          have e5 : v5 = _ := e5
          have lw : h5.length = h2.length := l5
          have ck : CntAt h5 c b (stepD k (-1)) := cc
          have ow : ∀ e, e ≠ c → hget h5 e = _ := oo
          rw [show rix 3 = -1 from rfl, hok] at e5
          subst e5
          have hb5 : stepD k (-1) = k := by unfold stepD; rw [hok]; rfl
          rw [hb5] at ck
          simp (disch := first | omega | (simp only [List.length_append, List.length_cons, List.length_nil, length_hset, length_hkill]; omega)) only [↓fsPre, fsPost, fsCond, fsGen, npick, nbin, nun, nconv, nnilCheck, noff, nidxArr, nidxSl, nfield, npart, nindex, nextract, nlenSl, nlenStr, ncap, mmx, minmax2, nslice, nsliceArr, nbounds, obound, bound, adv, nbits, eqVal, eqCell, eqCells, nfill, lenOfSl, cls, fresults, fresl, fres1, gt_iff_lt, ge_iff_le, reduceCtorEq, Nat.reduceAdd, Nat.reduceMul, Nat.reduceSub, Nat.reduceLT, Nat.reduceLeDiff, Nat.reduceEqDiff, Nat.reduceBEq, Nat.reduceBNe, Int.reduceLT, Int.reduceLE, Int.reduceEq, Int.reduceNe, Int.reduceAdd, Int.reduceSub, Int.reduceNeg, Int.reduceToNat, Int.reduceMul, ↓reduceIte, Int.reduceGT, Int.reduceGE, f5, f6, f7, f29, f30, f31]
          exact ⟨by omega, fun e he n1 n2 => by rw [ow e n1]; exact ho2 e he n1 n2, _, ck, by rw [ow W (by omega)]; exact hW2, r1⟩
      · rintro F h ⟨f5, f6, f7, f29, f30, f31, hl, ho, k, hk, hW, r1⟩
        have sh : RSch h b q z0 z1 z2 z3 z4 z5 z7 z8 z9 := sch2.mono2 fun e he => ho e (by omega) (by omega) (by omega)
        have rh := sh.2.2.2.2.2.2.1
        have hX' := (ho X hXM (by omega) (by omega)).trans hX
        have hch := hget_some_lt hk
        have hWh := hget_some_lt hW
        simp (disch := first | omega | (simp only [List.length_append, List.length_cons, List.length_nil, length_hset, length_hkill]; omega)) only [↓fsPre, fsPost, fsCond, fsGen, npick, nbin, nun, nconv, nnilCheck, noff, nidxArr, nidxSl, nfield, npart, nindex, nextract, nlenSl, nlenStr, ncap, mmx, minmax2, nslice, nsliceArr, nbounds, obound, bound, adv, nbits, eqVal, eqCell, eqCells, nfill, lenOfSl, cls, fresults, fresl, fres1, gt_iff_lt, ge_iff_le, reduceCtorEq, Nat.reduceAdd, Nat.reduceMul, Nat.reduceSub, Nat.reduceLT, Nat.reduceLeDiff, Nat.reduceEqDiff, Nat.reduceBEq, Nat.reduceBNe, Int.reduceLT, Int.reduceLE, Int.reduceEq, Int.reduceNe, Int.reduceAdd, Int.reduceSub, Int.reduceNeg, Int.reduceToNat, Int.reduceMul, ↓reduceIte, Int.reduceGT, Int.reduceGE, f5, f6, f7, f29, f30, f31]
        refine callT_D (all_ok h c b q k rh hk) rfl ?_
        rintro v6 h6 ⟨p, e6, hp6, hl6, ho6⟩
        have e6 : v6 = _ := e6
        subst e6
        have hp7 : hget h6 p = _ := hp6
        have hl7 : h.length ≤ h6.length := hl6
        have ho7 : ∀ e, e < h.length → hget h6 e = hget h e := ho6
        have hX6 := (ho7 X (by omega)).trans hX'
        have rh6 := rh.mono (ho7 b (by omega))
        have hk6 : CntAt h6 c b k := (ho7 c (by omega)).trans hk
        have hW6 := (ho7 W (by omega)).trans hW
        have rh8 := rh6
        obtain ⟨s0, s1, s2, g0, a0, g1, a1, g3, a3, hrb, p1, p2, p3, p4, p5, p6⟩ := rh8
        have hb6 := rh6.lt
        have hp6l := hget_some_lt hp7
        simp (disch := first | omega | (simp only [List.length_append, List.length_cons, List.length_nil, length_hset, length_hkill]; omega)) only [↓fsPre, fsPost, fsCond, fsGen, npick, nbin, nun, nconv, nnilCheck, noff, nidxArr, nidxSl, nfield, npart, nindex, nextract, nlenSl, nlenStr, ncap, mmx, minmax2, nslice, nsliceArr, nbounds, obound, bound, adv, nbits, eqVal, eqCell, eqCells, nfill, lenOfSl, cls, fresults, fresl, fres1, gt_iff_lt, ge_iff_le, reduceCtorEq, Nat.reduceAdd, Nat.reduceMul, Nat.reduceSub, Nat.reduceLT, Nat.reduceLeDiff, Nat.reduceEqDiff, Nat.reduceBEq, Nat.reduceBNe, Int.reduceLT, Int.reduceLE, Int.reduceEq, Int.reduceNe, Int.reduceAdd, Int.reduceSub, Int.reduceNeg, Int.reduceToNat, Int.reduceMul, ↓reduceIte, Int.reduceGT, Int.reduceGE, f5, f6, f7, f29, f30, f31, hX6]
        refine wloop (fun i F g => F 5 = .ptr (some (X, 0)) ∧ F 6 = .ptr (some (c, 0)) ∧ F 7 = .slice (some (W, 0)) 3 (.fix 3) ∧ F 29 = .slice (some (B, 0)) N (.fix mm) ∧ F 30 = .int .i64 N ∧ F 31 = .int .i64 j ∧ F 13 = .slice (some (p, 0)) 3 (.opn 2) ∧ F 106 = .slice (some (b, 0)) 3 (.fix 3) ∧ F 107 = .int .i64 3 ∧ F 108 = .int .i64 i ∧ ∃ L, g = h6 ++ L) 3 ?_ ?_ ?_
        · simp (disch := first | omega | (simp only [List.length_append, List.length_cons, List.length_nil, length_hset, length_hkill]; omega)) only [↓fsPre, fsPost, fsCond, fsGen, npick, nbin, nun, nconv, nnilCheck, noff, nidxArr, nidxSl, nfield, npart, nindex, nextract, nlenSl, nlenStr, ncap, mmx, minmax2, nslice, nsliceArr, nbounds, obound, bound, adv, nbits, eqVal, eqCell, eqCells, nfill, lenOfSl, cls, fresults, fresl, fres1, gt_iff_lt, ge_iff_le, reduceCtorEq, Nat.reduceAdd, Nat.reduceMul, Nat.reduceSub, Nat.reduceLT, Nat.reduceLeDiff, Nat.reduceEqDiff, Nat.reduceBEq, Nat.reduceBNe, Int.reduceLT, Int.reduceLE, Int.reduceEq, Int.reduceNe, Int.reduceAdd, Int.reduceSub, Int.reduceNeg, Int.reduceToNat, Int.reduceMul, ↓reduceIte, Int.reduceGT, Int.reduceGE, f5, f6, f7, f29, f30, f31]
          exact ⟨[], by simp⟩
        · rintro i F g hi ⟨f5, f6, f7, f29, f30, f31, f13, f106, f107, f108, L, rfl⟩
          match i, hi with
          | 0, _ =>
            have hct := fun J => count_ok (h6 ++ J) c b q k 1 (rh6.mono (hget_appl hb6)) (show CntAt (h6 ++ J) c b k from (hget_appl (by omega)).trans hk6)
            rw [show cntOf k (rix 1) = k 0 from rfl] at hct
            simp (disch := first | omega | (simp only [List.length_append, List.length_cons, List.length_nil, length_hset, length_hkill]; omega)) only [↓fsPre, fsPost, fsCond, fsGen, npick, nbin, nun, nconv, nnilCheck, noff, nidxArr, nidxSl, nfield, npart, nindex, nextract, nlenSl, nlenStr, ncap, mmx, minmax2, nslice, nsliceArr, nbounds, obound, bound, adv, nbits, eqVal, eqCell, eqCells, nfill, lenOfSl, cls, fresults, fresl, fres1, gt_iff_lt, ge_iff_le, reduceCtorEq, Nat.reduceAdd, Nat.reduceMul, Nat.reduceSub, Nat.reduceLT, Nat.reduceLeDiff, Nat.reduceEqDiff, Nat.reduceBEq, Nat.reduceBNe, Int.reduceLT, Int.reduceLE, Int.reduceEq, Int.reduceNe, Int.reduceAdd, Int.reduceSub, Int.reduceNeg, Int.reduceToNat, Int.reduceMul, ↓reduceIte, Int.reduceGT, Int.reduceGE, f5, f6, f7, f29, f30, f31, f13, f106, f107, f108, hrb, p1, p2, p3, p4, p5, p6, hW6, hp7, usedCells]
            refine callDT_one (hct _) rfl ?_
            simp (disch := first | omega | (simp only [List.length_append, List.length_cons, List.length_nil, length_hset, length_hkill]; omega)) only [↓fsPre, fsPost, fsCond, fsGen, npick, nbin, nun, nconv, nnilCheck, noff, nidxArr, nidxSl, nfield, npart, nindex, nextract, nlenSl, nlenStr, ncap, mmx, minmax2, nslice, nsliceArr, nbounds, obound, bound, adv, nbits, eqVal, eqCell, eqCells, nfill, lenOfSl, cls, fresults, fresl, fres1, gt_iff_lt, ge_iff_le, reduceCtorEq, Nat.reduceAdd, Nat.reduceMul, Nat.reduceSub, Nat.reduceLT, Nat.reduceLeDiff, Nat.reduceEqDiff, Nat.reduceBEq, Nat.reduceBNe, Int.reduceLT, Int.reduceLE, Int.reduceEq, Int.reduceNe, Int.reduceAdd, Int.reduceSub, Int.reduceNeg, Int.reduceToNat, Int.reduceMul, ↓reduceIte, Int.reduceGT, Int.reduceGE, f5, f6, f7, f29, f30, f31, f13, f106, f107, f108, hrb, p1, p2, p3, p4, p5, p6, hW6, hp7, usedCells]
            exact ⟨_, rfl⟩
          | 1, _ =>
            have hct := fun J => count_ok (h6 ++ J) c b q k 2 (rh6.mono (hget_appl hb6)) (show CntAt (h6 ++ J) c b k from (hget_appl (by omega)).trans hk6)
            rw [show cntOf k (rix 2) = k 1 from rfl] at hct
            simp (disch := first | omega | (simp only [List.length_append, List.length_cons, List.length_nil, length_hset, length_hkill]; omega)) only [↓fsPre, fsPost, fsCond, fsGen, npick, nbin, nun, nconv, nnilCheck, noff, nidxArr, nidxSl, nfield, npart, nindex, nextract, nlenSl, nlenStr, ncap, mmx, minmax2, nslice, nsliceArr, nbounds, obound, bound, adv, nbits, eqVal, eqCell, eqCells, nfill, lenOfSl, cls, fresults, fresl, fres1, gt_iff_lt, ge_iff_le, reduceCtorEq, Nat.reduceAdd, Nat.reduceMul, Nat.reduceSub, Nat.reduceLT, Nat.reduceLeDiff, Nat.reduceEqDiff, Nat.reduceBEq, Nat.reduceBNe, Int.reduceLT, Int.reduceLE, Int.reduceEq, Int.reduceNe, Int.reduceAdd, Int.reduceSub, Int.reduceNeg, Int.reduceToNat, Int.reduceMul, ↓reduceIte, Int.reduceGT, Int.reduceGE, f5, f6, f7, f29, f30, f31, f13, f106, f107, f108, hrb, p1, p2, p3, p4, p5, p6, hW6, hp7, usedCells]
            refine callDT_one (hct _) rfl ?_
            simp (disch := first | omega | (simp only [List.length_append, List.length_cons, List.length_nil, length_hset, length_hkill]; omega)) only [↓fsPre, fsPost, fsCond, fsGen, npick, nbin, nun, nconv, nnilCheck, noff, nidxArr, nidxSl, nfield, npart, nindex, nextract, nlenSl, nlenStr, ncap, mmx, minmax2, nslice, nsliceArr, nbounds, obound, bound, adv, nbits, eqVal, eqCell, eqCells, nfill, lenOfSl, cls, fresults, fresl, fres1, gt_iff_lt, ge_iff_le, reduceCtorEq, Nat.reduceAdd, Nat.reduceMul, Nat.reduceSub, Nat.reduceLT, Nat.reduceLeDiff, Nat.reduceEqDiff, Nat.reduceBEq, Nat.reduceBNe, Int.reduceLT, Int.reduceLE, Int.reduceEq, Int.reduceNe, Int.reduceAdd, Int.reduceSub, Int.reduceNeg, Int.reduceToNat, Int.reduceMul, ↓reduceIte, Int.reduceGT, Int.reduceGE, f5, f6, f7, f29, f30, f31, f13, f106, f107, f108, hrb, p1, p2, p3, p4, p5, p6, hW6, hp7, usedCells]
            exact ⟨_, rfl⟩
          | 2, _ =>
            have hct := fun J => count_ok (h6 ++ J) c b q k 7 (rh6.mono (hget_appl hb6)) (show CntAt (h6 ++ J) c b k from (hget_appl (by omega)).trans hk6)
            rw [show cntOf k (rix 7) = k 2 from rfl] at hct
            simp (disch := first | omega | (simp only [List.length_append, List.length_cons, List.length_nil, length_hset, length_hkill]; omega)) only [↓fsPre, fsPost, fsCond, fsGen, npick, nbin, nun, nconv, nnilCheck, noff, nidxArr, nidxSl, nfield, npart, nindex, nextract, nlenSl, nlenStr, ncap, mmx, minmax2, nslice, nsliceArr, nbounds, obound, bound, adv, nbits, eqVal, eqCell, eqCells, nfill, lenOfSl, cls, fresults, fresl, fres1, gt_iff_lt, ge_iff_le, reduceCtorEq, Nat.reduceAdd, Nat.reduceMul, Nat.reduceSub, Nat.reduceLT, Nat.reduceLeDiff, Nat.reduceEqDiff, Nat.reduceBEq, Nat.reduceBNe, Int.reduceLT, Int.reduceLE, Int.reduceEq, Int.reduceNe, Int.reduceAdd, Int.reduceSub, Int.reduceNeg, Int.reduceToNat, Int.reduceMul, ↓reduceIte, Int.reduceGT, Int.reduceGE, f5, f6, f7, f29, f30, f31, f13, f106, f107, f108, hrb, p1, p2, p3, p4, p5, p6, hW6, hp7, usedCells]
            refine callDT_one (hct _) rfl ?_
            simp (disch := first | omega | (simp only [List.length_append, List.length_cons, List.length_nil, length_hset, length_hkill]; omega)) only [↓fsPre, fsPost, fsCond, fsGen, npick, nbin, nun, nconv, nnilCheck, noff, nidxArr, nidxSl, nfield, npart, nindex, nextract, nlenSl, nlenStr, ncap, mmx, minmax2, nslice, nsliceArr, nbounds, obound, bound, adv, nbits, eqVal, eqCell, eqCells, nfill, lenOfSl, cls, fresults, fresl, fres1, gt_iff_lt, ge_iff_le, reduceCtorEq, Nat.reduceAdd, Nat.reduceMul, Nat.reduceSub, Nat.reduceLT, Nat.reduceLeDiff, Nat.reduceEqDiff, Nat.reduceBEq, Nat.reduceBNe, Int.reduceLT, Int.reduceLE, Int.reduceEq, Int.reduceNe, Int.reduceAdd, Int.reduceSub, Int.reduceNeg, Int.reduceToNat, Int.reduceMul, ↓reduceIte, Int.reduceGT, Int.reduceGE, f5, f6, f7, f29, f30, f31, f13, f106, f107, f108, hrb, p1, p2, p3, p4, p5, p6, hW6, hp7, usedCells]
            exact ⟨_, rfl⟩
        · rintro F g ⟨f5, f6, f7, f29, f30, f31, f13, f106, f107, f108, L, rfl⟩
          simp (disch := first | omega | (simp only [List.length_append, List.length_cons, List.length_nil, length_hset, length_hkill]; omega)) only [↓fsPre, fsPost, fsCond, fsGen, npick, nbin, nun, nconv, nnilCheck, noff, nidxArr, nidxSl, nfield, npart, nindex, nextract, nlenSl, nlenStr, ncap, mmx, minmax2, nslice, nsliceArr, nbounds, obound, bound, adv, nbits, eqVal, eqCell, eqCells, nfill, lenOfSl, cls, fresults, fresl, fres1, gt_iff_lt, ge_iff_le, reduceCtorEq, Nat.reduceAdd, Nat.reduceMul, Nat.reduceSub, Nat.reduceLT, Nat.reduceLeDiff, Nat.reduceEqDiff, Nat.reduceBEq, Nat.reduceBNe, Int.reduceLT, Int.reduceLE, Int.reduceEq, Int.reduceNe, Int.reduceAdd, Int.reduceSub, Int.reduceNeg, Int.reduceToNat, Int.reduceMul, ↓reduceIte, Int.reduceGT, Int.reduceGE, f5, f6, f7, f29, f30, f31, f106, f107, f108]
          refine ⟨by omega, fun e he n1 n2 => ?_, k, ?_, ?_, r1⟩
          · rw [hget_appl (by omega), ho7 e (by omega)]; exact ho e he n1 n2
          · exact (hget_appl (by omega)).trans hk6
          · first | exact hW6 | exact (hget_appl (by omega)).trans hW6
    · rintro F h ⟨f5, f6, f7, f29, f30, f31, hl, ho, k, hk, hW, r1⟩
      simp (disch := first | omega | (simp only [List.length_append, List.length_cons, List.length_nil, length_hset, length_hkill]; omega)) only [↓fsPre, fsPost, fsCond, fsGen, npick, nbin, nun, nconv, nnilCheck, noff, nidxArr, nidxSl, nfield, npart, nindex, nextract, nlenSl, nlenStr, ncap, mmx, minmax2, nslice, nsliceArr, nbounds, obound, bound, adv, nbits, eqVal, eqCell, eqCells, nfill, lenOfSl, cls, fresults, fresl, fres1, gt_iff_lt, ge_iff_le, reduceCtorEq, Nat.reduceAdd, Nat.reduceMul, Nat.reduceSub, Nat.reduceLT, Nat.reduceLeDiff, Nat.reduceEqDiff, Nat.reduceBEq, Nat.reduceBNe, Int.reduceLT, Int.reduceLE, Int.reduceEq, Int.reduceNe, Int.reduceAdd, Int.reduceSub, Int.reduceNeg, Int.reduceToNat, Int.reduceMul, ↓reduceIte, Int.reduceGT, Int.reduceGE, f5, f6, f7, f29, f30, f31]
      refine callT_one (begun17_ok h) rfl ?_
      simp (disch := first | omega | (simp only [List.length_append, List.length_cons, List.length_nil, length_hset, length_hkill]; omega)) only [↓fsPre, fsPost, fsCond, fsGen, npick, nbin, nun, nconv, nnilCheck, noff, nidxArr, nidxSl, nfield, npart, nindex, nextract, nlenSl, nlenStr, ncap, mmx, minmax2, nslice, nsliceArr, nbounds, obound, bound, adv, nbits, eqVal, eqCell, eqCells, nfill, lenOfSl, cls, fresults, fresl, fres1, gt_iff_lt, ge_iff_le, reduceCtorEq, Nat.reduceAdd, Nat.reduceMul, Nat.reduceSub, Nat.reduceLT, Nat.reduceLeDiff, Nat.reduceEqDiff, Nat.reduceBEq, Nat.reduceBNe, Int.reduceLT, Int.reduceLE, Int.reduceEq, Int.reduceNe, Int.reduceAdd, Int.reduceSub, Int.reduceNeg, Int.reduceToNat, Int.reduceMul, ↓reduceIte, Int.reduceGT, Int.reduceGE]

def kindsCalls : List PK := [.sl [.int .u8], .sl [.int .u8]]
theorem walkCalls (nvs : List NV) (h : Heap) (ok : argsOK kindsCalls 0 nvs h) : NFun Try.prog 6 nvs h (fun q => q.1 = .bool true) := by
  obtain ⟨v, vs, x, h, rfl, rfl, h1, ok⟩ := argsOK_cons ok
  obtain ⟨w, vs, y, h, rfl, rfl, h2, ok⟩ := argsOK_cons ok
  obtain ⟨rfl, rfl⟩ := argsOK_nil ok
  obtain ⟨xs, hv⟩ := argOK_bytes (H := [x, y]) h1 (by rw [hget_zero])
  obtain ⟨ys, hw⟩ := argOK_bytes (H := [x, y]) h2 (by rw [hget_succ, hget_zero])
  exact calls_ok _ _ _ _ _ hv hw
end Go.Proofs
