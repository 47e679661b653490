/- Audit: AuditAppends. -/
import Derived.Test.YtlnkiclnofgagaaS1C
import Derived.Test.YtlnkiclnofgagaaFsG
set_option linter.unusedSimpArgs false
set_option linter.unusedVariables false
set_option maxRecDepth 10000
namespace Go.Proofs
open Go.Ns

theorem lognil_ok (H : Heap) : DCall Try.prog 10 [.slice none 0 (.fix 0)] H (logQ H []) := by
  refine call_det E0 rfl mixed t10_ok (by kernel_rfl) (by rintro q ⟨_, _, _, _, _, h, _⟩; exact h) ?_
  simp only [t10]
  simp (disch := first | omega | (simp only [List.length_append, List.length_cons, List.length_nil, length_hset, length_hkill]; omega)) only [↓fsPre, fsPost, fsCond, fsGen, npick, nbin, nun, nconv, nnilCheck, noff, nidxArr, nidxSl, nfield, npart, nindex, nextract, nlenSl, nlenStr, ncap, mmx, minmax2, nslice, nsliceArr, nbounds, obound, bound, adv, nbits, eqVal, eqCell, eqCells, nfill, lenOfSl, cls, fresults, fresl, fres1, gt_iff_lt, ge_iff_le, reduceCtorEq, Nat.reduceAdd, Nat.reduceMul, Nat.reduceSub, Nat.reduceLT, Nat.reduceLeDiff, Nat.reduceEqDiff, Nat.reduceBEq, Nat.reduceBNe, Int.reduceLT, Int.reduceLE, Int.reduceEq, Int.reduceNe, Int.reduceAdd, Int.reduceSub, Int.reduceNeg, Int.reduceToNat, Int.reduceMul, ↓reduceIte, Int.reduceGT, Int.reduceGE]
  refine wloop (fun j F h => F 14 = .int .i64 0 ∧ F 15 = .int .i64 0 ∧ F 2 = .ptr (some (H.length, 0)) ∧ F 3 = .ptr (some (H.length + 1, 0)) ∧ F 4 = .ptr (some (H.length + 2, 0)) ∧ F 5 = .ptr (some (H.length + 3, 0)) ∧ h =
    H ++ [some (.cells [.int .i64 0, .slice none 0 (.fix 0)] false), some (.cells [.slice none 0 (.fix 0)] false), some (.cells [.int .i64 0, .slice none 0 (.fix 0)] false), some (.cells [.slice none 0 (.fix 0)] false)]) 0 ?_ ?_ ?_
  · simp (disch := first | omega | (simp only [List.length_append, List.length_cons, List.length_nil, length_hset, length_hkill]; omega)) only [↓fsPre, fsPost, fsCond, fsGen, npick, nbin, nun, nconv, nnilCheck, noff, nidxArr, nidxSl, nfield, npart, nindex, nextract, nlenSl, nlenStr, ncap, mmx, minmax2, nslice, nsliceArr, nbounds, obound, bound, adv, nbits, eqVal, eqCell, eqCells, nfill, lenOfSl, cls, fresults, fresl, fres1, gt_iff_lt, ge_iff_le, reduceCtorEq, Nat.reduceAdd, Nat.reduceMul, Nat.reduceSub, Nat.reduceLT, Nat.reduceLeDiff, Nat.reduceEqDiff, Nat.reduceBEq, Nat.reduceBNe, Int.reduceLT, Int.reduceLE, Int.reduceEq, Int.reduceNe, Int.reduceAdd, Int.reduceSub, Int.reduceNeg, Int.reduceToNat, Int.reduceMul, ↓reduceIte, Int.reduceGT, Int.reduceGE]
  · intro j F h hj; omega
  · rintro F h ⟨f14, f15, f2, f3, f4, f5, rfl⟩
    simp (disch := first | omega | (simp only [List.length_append, List.length_cons, List.length_nil, length_hset, length_hkill]; omega)) only [↓fsPre, fsPost, fsCond, fsGen, npick, nbin, nun, nconv, nnilCheck, noff, nidxArr, nidxSl, nfield, npart, nindex, nextract, nlenSl, nlenStr, ncap, mmx, minmax2, nslice, nsliceArr, nbounds, obound, bound, adv, nbits, eqVal, eqCell, eqCells, nfill, lenOfSl, cls, fresults, fresl, fres1, gt_iff_lt, ge_iff_le, reduceCtorEq, Nat.reduceAdd, Nat.reduceMul, Nat.reduceSub, Nat.reduceLT, Nat.reduceLeDiff, Nat.reduceEqDiff, Nat.reduceBEq, Nat.reduceBNe, Int.reduceLT, Int.reduceLE, Int.reduceEq, Int.reduceNe, Int.reduceAdd, Int.reduceSub, Int.reduceNeg, Int.reduceToNat, Int.reduceMul, ↓reduceIte, Int.reduceGT, Int.reduceGE, f14, f15, f2, f3, f4, f5]
    refine ⟨_, _, rfl, .inl ⟨rfl, rfl⟩, .inl ⟨rfl, rfl⟩, by simp, fun c hc => ?_⟩
    simp (disch := first | omega | (simp only [List.length_append, List.length_cons, List.length_nil, length_hset, length_hkill]; omega)) only [↓fsPre, fsPost, fsCond, fsGen, npick, nbin, nun, nconv, nnilCheck, noff, nidxArr, nidxSl, nfield, npart, nindex, nextract, nlenSl, nlenStr, ncap, mmx, minmax2, nslice, nsliceArr, nbounds, obound, bound, adv, nbits, eqVal, eqCell, eqCells, nfill, lenOfSl, cls, fresults, fresl, fres1, gt_iff_lt, ge_iff_le, reduceCtorEq, Nat.reduceAdd, Nat.reduceMul, Nat.reduceSub, Nat.reduceLT, Nat.reduceLeDiff, Nat.reduceEqDiff, Nat.reduceBEq, Nat.reduceBNe, Int.reduceLT, Int.reduceLE, Int.reduceEq, Int.reduceNe, Int.reduceAdd, Int.reduceSub, Int.reduceNeg, Int.reduceToNat, Int.reduceMul, ↓reduceIte, Int.reduceGT, Int.reduceGE]

theorem logcall_ok (H : Heap) (v : NV) (xs : List Int) (h : BytesArg H v xs) : DCall Try.prog 10 [v] H (logQ H (xs.take 60)) := by
  rcases h with ⟨rfl, rfl⟩ | ⟨b, m, cs, ro, rfl, h1, h2, h3, h4, h5⟩
  · exact lognil_ok H
  · exact log_ok H b _ m cs ro xs h1 rfl h4 h5 h2 h3

theorem appends_ok (H : Heap) (v : NV) (xs : List Int) (r : Rec) (hv : BytesArg H v xs) : NFun Try.prog 3 [v, .agg r.cells] H fun q => q.1 = .bool true := by
  refine fun_of_fwp E0 mixed t3_ok.2 (by kernel_rfl) ?_
  rw [fwp_T]
  simp only [t3]
  simp (disch := first | omega | (simp only [List.length_append, List.length_cons, List.length_nil, length_hset, length_hkill]; omega)) only [↓fsPre, fsPost, fsCond, fsGen, npick, nbin, nun, nconv, nnilCheck, noff, nidxArr, nidxSl, nfield, npart, nindex, nextract, nlenSl, nlenStr, ncap, mmx, minmax2, nslice, nsliceArr, nbounds, obound, bound, adv, nbits, eqVal, eqCell, eqCells, nfill, lenOfSl, cls, fresults, fresl, fres1, gt_iff_lt, ge_iff_le, reduceCtorEq, Nat.reduceAdd, Nat.reduceMul, Nat.reduceSub, Nat.reduceLT, Nat.reduceLeDiff, Nat.reduceEqDiff, Nat.reduceBEq, Nat.reduceBNe, Int.reduceLT, Int.reduceLE, Int.reduceEq, Int.reduceNe, Int.reduceAdd, Int.reduceSub, Int.reduceNeg, Int.reduceToNat, Int.reduceMul, ↓reduceIte, Int.reduceGT, Int.reduceGE, Rec.cells]
  refine callT_D (logcall_ok _ v xs ?_) rfl ?_
  · rcases hv with h | ⟨b, m, cs, ro, h0, h1, h2⟩
    · exact .inl h
    · exact .inr ⟨b, m, cs, ro, h0, by rw [hget_appl (hget_lt h1)]; exact h1, h2⟩
  rintro w h ⟨s1, s2, rfl, r1, r2, len, old⟩
  simp only [List.length_append, List.length_singleton] at len
  have e0 := old H.length (by simp)
  simp (disch := first | omega | (simp only [List.length_append, List.length_cons, List.length_nil, length_hset, length_hkill]; omega)) only [↓fsPre, fsPost, fsCond, fsGen, npick, nbin, nun, nconv, nnilCheck, noff, nidxArr, nidxSl, nfield, npart, nindex, nextract, nlenSl, nlenStr, ncap, mmx, minmax2, nslice, nsliceArr, nbounds, obound, bound, adv, nbits, eqVal, eqCell, eqCells, nfill, lenOfSl, cls, fresults, fresl, fres1, gt_iff_lt, ge_iff_le, reduceCtorEq, Nat.reduceAdd, Nat.reduceMul, Nat.reduceSub, Nat.reduceLT, Nat.reduceLeDiff, Nat.reduceEqDiff, Nat.reduceBEq, Nat.reduceBNe, Int.reduceLT, Int.reduceLE, Int.reduceEq, Int.reduceNe, Int.reduceAdd, Int.reduceSub, Int.reduceNeg, Int.reduceToNat, Int.reduceMul, ↓reduceIte, Int.reduceGT, Int.reduceGE] at e0
  have hlen : (xs.take 60).length ≤ 60 := by simp; omega
  generalize xs.take 60 = ys at *
  have hs1 : s1.one = true := by rcases r1 with ⟨rfl, _⟩ | ⟨_, rfl, _⟩ <;> rfl
  have hs2 : s2.one = true := by rcases r2 with ⟨rfl, _⟩ | ⟨_, rfl, _⟩ <;> rfl
  generalize hnx : (if ys.length = 0 then (0 : Int) else (ys.length : Int) + 1) = nx
  have hnum : (if 1 < nx then nx else 1) = (ys.length : Int) + 1 := by
    rw [← hnx]
    by_cases h0 : ys.length = 0
    · simp [h0]
    · rw [if_neg h0, if_pos (by omega)]
  have hnb : 0 ≤ nx ∧ nx ≤ 1000 := by rw [← hnx]; split <;> omega
  simp (disch := first | omega | (simp only [List.length_append, List.length_cons, List.length_nil, length_hset, length_hkill]; omega)) only [↓fsPre, fsPost, fsCond, fsGen, npick, nbin, nun, nconv, nnilCheck, noff, nidxArr, nidxSl, nfield, npart, nindex, nextract, nlenSl, nlenStr, ncap, mmx, minmax2, nslice, nsliceArr, nbounds, obound, bound, adv, nbits, eqVal, eqCell, eqCells, nfill, lenOfSl, cls, fresults, fresl, fres1, gt_iff_lt, ge_iff_le, reduceCtorEq, Nat.reduceAdd, Nat.reduceMul, Nat.reduceSub, Nat.reduceLT, Nat.reduceLeDiff, Nat.reduceEqDiff, Nat.reduceBEq, Nat.reduceBNe, Int.reduceLT, Int.reduceLE, Int.reduceEq, Int.reduceNe, Int.reduceAdd, Int.reduceSub, Int.reduceNeg, Int.reduceToNat, Int.reduceMul, ↓reduceIte, Int.reduceGT, Int.reduceGE, hs1, hs2, e0]
  refine callDT_one (append_ok _ _ _ (last24 (allRecs ys)) r r1.app.at (by rw [last24_length]; omega) hnb) rfl ?_
  simp (disch := first | omega | (simp only [List.length_append, List.length_cons, List.length_nil, length_hset, length_hkill]; omega)) only [↓fsPre, fsPost, fsCond, fsGen, npick, nbin, nun, nconv, nnilCheck, noff, nidxArr, nidxSl, nfield, npart, nindex, nextract, nlenSl, nlenStr, ncap, mmx, minmax2, nslice, nsliceArr, nbounds, obound, bound, adv, nbits, eqVal, eqCell, eqCells, nfill, lenOfSl, cls, fresults, fresl, fres1, gt_iff_lt, ge_iff_le, reduceCtorEq, Nat.reduceAdd, Nat.reduceMul, Nat.reduceSub, Nat.reduceLT, Nat.reduceLeDiff, Nat.reduceEqDiff, Nat.reduceBEq, Nat.reduceBNe, Int.reduceLT, Int.reduceLE, Int.reduceEq, Int.reduceNe, Int.reduceAdd, Int.reduceSub, Int.reduceNeg, Int.reduceToNat, Int.reduceMul, ↓reduceIte, Int.reduceGT, Int.reduceGE, hs2, e0, hnum]
  refine callDT_one (refappend_ok _ _ (allRecs ys) r r2.app.at (by rw [allRecs_length]; omega)) rfl ?_
  simp (disch := first | omega | (simp only [List.length_append, List.length_cons, List.length_nil, length_hset, length_hkill]; omega)) only [↓fsPre, fsPost, fsCond, fsGen, npick, nbin, nun, nconv, nnilCheck, noff, nidxArr, nidxSl, nfield, npart, nindex, nextract, nlenSl, nlenStr, ncap, mmx, minmax2, nslice, nsliceArr, nbounds, obound, bound, adv, nbits, eqVal, eqCell, eqCells, nfill, lenOfSl, cls, fresults, fresl, fres1, gt_iff_lt, ge_iff_le, reduceCtorEq, Nat.reduceAdd, Nat.reduceMul, Nat.reduceSub, Nat.reduceLT, Nat.reduceLeDiff, Nat.reduceEqDiff, Nat.reduceBEq, Nat.reduceBNe, Int.reduceLT, Int.reduceLE, Int.reduceEq, Int.reduceNe, Int.reduceAdd, Int.reduceSub, Int.reduceNeg, Int.reduceToNat, Int.reduceMul, ↓reduceIte, Int.reduceGT, Int.reduceGE, hs1, hs2, e0, hnum, allRecs_length]
  have hkl : kept (last24 (allRecs ys)) ++ [r.withNum (ys.length + 1)] = last24 (allRecs ys ++ [r.withNum (ys.length + 1)]) := (last24_snoc _ _).symm
  have hal : (allRecs ys ++ [r.withNum ((ys.length : Int) + 1)]).length = ys.length + 1 := by simp [allRecs_length]
  refine callDT_one (kept_ok _ (h.length + 3) _ (allRecs ys ++ [r.withNum (ys.length + 1)]) hal.symm (by simp (disch := first | omega | (simp only [List.length_append, List.length_cons, List.length_nil, length_hset, length_hkill]; omega)) only [↓fsPre, fsPost, fsCond, fsGen, npick, nbin, nun, nconv, nnilCheck, noff, nidxArr, nidxSl, nfield, npart, nindex, nextract, nlenSl, nlenStr, ncap, mmx, minmax2, nslice, nsliceArr, nbounds, obound, bound, adv, nbits, eqVal, eqCell, eqCells, nfill, lenOfSl, cls, fresults, fresl, fres1, gt_iff_lt, ge_iff_le, reduceCtorEq, Nat.reduceAdd, Nat.reduceMul, Nat.reduceSub, Nat.reduceLT, Nat.reduceLeDiff, Nat.reduceEqDiff, Nat.reduceBEq, Nat.reduceBNe, Int.reduceLT, Int.reduceLE, Int.reduceEq, Int.reduceNe, Int.reduceAdd, Int.reduceSub, Int.reduceNeg, Int.reduceToNat, Int.reduceMul, ↓reduceIte, Int.reduceGT, Int.reduceGE]) (by rw [hal]; omega)) rfl ?_
  simp (disch := first | omega | (simp only [List.length_append, List.length_cons, List.length_nil, length_hset, length_hkill]; omega)) only [↓fsPre, fsPost, fsCond, fsGen, npick, nbin, nun, nconv, nnilCheck, noff, nidxArr, nidxSl, nfield, npart, nindex, nextract, nlenSl, nlenStr, ncap, mmx, minmax2, nslice, nsliceArr, nbounds, obound, bound, adv, nbits, eqVal, eqCell, eqCells, nfill, lenOfSl, cls, fresults, fresl, fres1, gt_iff_lt, ge_iff_le, reduceCtorEq, Nat.reduceAdd, Nat.reduceMul, Nat.reduceSub, Nat.reduceLT, Nat.reduceLeDiff, Nat.reduceEqDiff, Nat.reduceBEq, Nat.reduceBNe, Int.reduceLT, Int.reduceLE, Int.reduceEq, Int.reduceNe, Int.reduceAdd, Int.reduceSub, Int.reduceNeg, Int.reduceToNat, Int.reduceMul, ↓reduceIte, Int.reduceGT, Int.reduceGE, hal]
  have hk1 : (kept (last24 (allRecs ys)) ++ [r.withNum ((ys.length : Int) + 1)]).length = (kept (last24 (allRecs ys))).length + 1 := by simp
  have hk2 := last24_length (allRecs ys ++ [r.withNum ((ys.length : Int) + 1)])
  rw [hal] at hk2
  have hcut : ∀ (o : Nat) (rs : List Rec) (i : Nat) (hi : i < (rs.drop o).length), cut (recs rs) (o * 7 + i * 7) 7 = some (rs.drop o)[i].cells := by
    intro o rs i hi
    have hi2 : o + i < rs.length := by simp at hi; omega
    rw [← Nat.add_mul, recs, cut_flatMap Rec.cells_length hi2]
    simp
  refine callDT_one (same_ok _ (h.length + 2) (h.length + 3) 0 ((ys.length + 1 - 24) * 7) ((kept (last24 (allRecs ys))).length + 1) (ys.length + 1 - (ys.length + 1 - 24)) (.opn 7) (.opn 7) (kept (last24 (allRecs ys)) ++ [r.withNum (ys.length + 1)]) (last24 (allRecs ys ++ [r.withNum (ys.length + 1)]))
    (recs (kept (last24 (allRecs ys)) ++ [r.withNum (ys.length + 1)])) (recs (allRecs ys ++ [r.withNum (ys.length + 1)])) false false (by simp (disch := first | omega | (simp only [List.length_append, List.length_cons, List.length_nil, length_hset, length_hkill]; omega)) only [↓fsPre, fsPost, fsCond, fsGen, npick, nbin, nun, nconv, nnilCheck, noff, nidxArr, nidxSl, nfield, npart, nindex, nextract, nlenSl, nlenStr, ncap, mmx, minmax2, nslice, nsliceArr, nbounds, obound, bound, adv, nbits, eqVal, eqCell, eqCells, nfill, lenOfSl, cls, fresults, fresl, fres1, gt_iff_lt, ge_iff_le, reduceCtorEq, Nat.reduceAdd, Nat.reduceMul, Nat.reduceSub, Nat.reduceLT, Nat.reduceLeDiff, Nat.reduceEqDiff, Nat.reduceBEq, Nat.reduceBNe, Int.reduceLT, Int.reduceLE, Int.reduceEq, Int.reduceNe, Int.reduceAdd, Int.reduceSub, Int.reduceNeg, Int.reduceToNat, Int.reduceMul, ↓reduceIte, Int.reduceGT, Int.reduceGE]) (by simp (disch := first | omega | (simp only [List.length_append, List.length_cons, List.length_nil, length_hset, length_hkill]; omega)) only [↓fsPre, fsPost, fsCond, fsGen, npick, nbin, nun, nconv, nnilCheck, noff, nidxArr, nidxSl, nfield, npart, nindex, nextract, nlenSl, nlenStr, ncap, mmx, minmax2, nslice, nsliceArr, nbounds, obound, bound, adv, nbits, eqVal, eqCell, eqCells, nfill, lenOfSl, cls, fresults, fresl, fres1, gt_iff_lt, ge_iff_le, reduceCtorEq, Nat.reduceAdd, Nat.reduceMul, Nat.reduceSub, Nat.reduceLT, Nat.reduceLeDiff, Nat.reduceEqDiff, Nat.reduceBEq, Nat.reduceBNe, Int.reduceLT, Int.reduceLE, Int.reduceEq, Int.reduceNe, Int.reduceAdd, Int.reduceSub, Int.reduceNeg, Int.reduceToNat, Int.reduceMul, ↓reduceIte, Int.reduceGT, Int.reduceGE]) ?_ ?_ (by rw [hk1, ← hk1, hkl, hk2]; omega) hk1.symm hk2.symm) rfl ?_
  · intro i hi
    have := hcut 0 (kept (last24 (allRecs ys)) ++ [r.withNum (ys.length + 1)]) i (by simpa using hi)
    simpa using this
  · intro i hi
    have h3 : ∀ (X : List Rec) (hi : i < (last24 X).length), cut (recs X) ((X.length - 24) * 7 + i * 7) 7 = some (last24 X)[i].cells := fun X hi => hcut (X.length - 24) X i hi
    have := h3 (allRecs ys ++ [r.withNum ((ys.length : Int) + 1)]) hi
    rw [hal] at this
    exact this
  rw [decide_eq_true hkl]
  simp (disch := first | omega | (simp only [List.length_append, List.length_cons, List.length_nil, length_hset, length_hkill]; omega)) only [↓fsPre, fsPost, fsCond, fsGen, npick, nbin, nun, nconv, nnilCheck, noff, nidxArr, nidxSl, nfield, npart, nindex, nextract, nlenSl, nlenStr, ncap, mmx, minmax2, nslice, nsliceArr, nbounds, obound, bound, adv, nbits, eqVal, eqCell, eqCells, nfill, lenOfSl, cls, fresults, fresl, fres1, gt_iff_lt, ge_iff_le, reduceCtorEq, Nat.reduceAdd, Nat.reduceMul, Nat.reduceSub, Nat.reduceLT, Nat.reduceLeDiff, Nat.reduceEqDiff, Nat.reduceBEq, Nat.reduceBNe, Int.reduceLT, Int.reduceLE, Int.reduceEq, Int.reduceNe, Int.reduceAdd, Int.reduceSub, Int.reduceNeg, Int.reduceToNat, Int.reduceMul, ↓reduceIte, Int.reduceGT, Int.reduceGE]
  refine callDT_one (begun24_ok _) rfl ?_
  simp (disch := first | omega | (simp only [List.length_append, List.length_cons, List.length_nil, length_hset, length_hkill]; omega)) only [↓fsPre, fsPost, fsCond, fsGen, npick, nbin, nun, nconv, nnilCheck, noff, nidxArr, nidxSl, nfield, npart, nindex, nextract, nlenSl, nlenStr, ncap, mmx, minmax2, nslice, nsliceArr, nbounds, obound, bound, adv, nbits, eqVal, eqCell, eqCells, nfill, lenOfSl, cls, fresults, fresl, fres1, gt_iff_lt, ge_iff_le, reduceCtorEq, Nat.reduceAdd, Nat.reduceMul, Nat.reduceSub, Nat.reduceLT, Nat.reduceLeDiff, Nat.reduceEqDiff, Nat.reduceBEq, Nat.reduceBNe, Int.reduceLT, Int.reduceLE, Int.reduceEq, Int.reduceNe, Int.reduceAdd, Int.reduceSub, Int.reduceNeg, Int.reduceToNat, Int.reduceMul, ↓reduceIte, Int.reduceGT, Int.reduceGE]

def kindsAppends : List PK := [.sl [.int .u8], .flat [.int .i64, .int .i64, .int .i64, .int .i64, .int .i64, .int .i64, .int .i64] true]

theorem typeds7 {cs : List NV} (h : typeds [.int .i64, .int .i64, .int .i64, .int .i64, .int .i64, .int .i64, .int .i64] cs) : ∃ r : Rec, cs = r.cells := by
  have one : ∀ {v : NV}, typed1 (.int .i64) v → ∃ n, v = .int .i64 n := by
    intro v hv
    cases v <;> first | (obtain ⟨rfl, _⟩ := hv; exact ⟨_, rfl⟩) | exact hv.elim
  match cs, h with
  | [a, b, c, d, e, f, g], ⟨h1, h2, h3, h4, h5, h6, h7, _⟩ =>
    obtain ⟨_, rfl⟩ := one h1
    obtain ⟨_, rfl⟩ := one h2
    obtain ⟨_, rfl⟩ := one h3
    obtain ⟨_, rfl⟩ := one h4
    obtain ⟨_, rfl⟩ := one h5
    obtain ⟨_, rfl⟩ := one h6
    obtain ⟨_, rfl⟩ := one h7
    exact ⟨⟨_, _, _, _, _, _, _⟩, rfl⟩

theorem walkAppends (nvs : List NV) (h : Heap) (ok : argsOK kindsAppends 0 nvs h) : NFun Try.prog 3 nvs h (fun q => q.1 = .bool true) := by
  obtain ⟨v, vs, x, h, rfl, rfl, h1, ok⟩ := argsOK_cons ok
  obtain ⟨w, vs, y, h, rfl, rfl, h2, ok⟩ := argsOK_cons ok
  obtain ⟨rfl, rfl⟩ := argsOK_nil ok
  obtain ⟨xs, hv⟩ := argOK_bytes (H := [x, y]) h1 (by rw [hget_zero])
  obtain ⟨h3, _⟩ := h2
  simp only [isFlatV, if_true] at h3
  obtain ⟨cs, rfl, h4⟩ := h3
  obtain ⟨r, rfl⟩ := typeds7 h4
  exact appends_ok _ _ _ _ hv
end Go.Proofs
