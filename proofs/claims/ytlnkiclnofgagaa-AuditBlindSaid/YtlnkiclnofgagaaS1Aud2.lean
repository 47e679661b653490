/- Audit: AuditReads. -/
import Derived.Test.YtlnkiclnofgagaaS1Aud
import Derived.Test.YtlnkiclnofgagaaS1D
set_option linter.unusedSimpArgs false
set_option linter.unusedVariables false
set_option maxRecDepth 10000
namespace Go.Proofs
open Go.Ns

theorem bytes_mono {H h : Heap} {v : NV} {xs : List Int} (r : BytesArg H v xs) (o : ∀ b, b < H.length → hget h b = hget H b) : BytesArg h v xs := by
  rcases r with r | ⟨b, m, cs, ro, h0, h1, h2⟩
  · exact .inl r
  · exact .inr ⟨b, m, cs, ro, h0, by rw [o b (hget_lt h1)]; exact h1, h2⟩

theorem sameE_ok (H : Heap) (v1 v2 : NV) (rs : List Rec) (h1 : RecsAt H v1 rs) (h2 : RecsAt H v2 rs) (hl : rs.length ≤ 1000) : NCall Try.prog 13 [v1, v2] H fun q => q = (.bool true, H) := by
  have nil : ∀ a c a' c', NCall Try.prog 13 [.slice a 0 c, .slice a' 0 c'] H fun q => q = (.bool true, H) := by
    intro a c a' c'
    refine call_pure E0 mixed t13_ok (by kernel_rfl) trivial ?_
    simp only [t13]
    simp (disch := first | omega | (simp only [List.length_append, List.length_cons, List.length_nil, length_hset, length_hkill]; omega)) only [↓fsPre, fsPost, fsCond, fsGen, npick, nbin, nun, nconv, nnilCheck, noff, nidxArr, nidxSl, nfield, npart, nindex, nextract, nlenSl, nlenStr, ncap, mmx, minmax2, nslice, nsliceArr, nbounds, obound, bound, adv, nbits, eqVal, eqCell, eqCells, nfill, lenOfSl, cls, fresults, fresl, fres1, gt_iff_lt, ge_iff_le, reduceCtorEq, Nat.reduceAdd, Nat.reduceMul, Nat.reduceSub, Nat.reduceLT, Nat.reduceLeDiff, Nat.reduceEqDiff, Nat.reduceBEq, Nat.reduceBNe, Int.reduceLT, Int.reduceLE, Int.reduceEq, Int.reduceNe, Int.reduceAdd, Int.reduceSub, Int.reduceNeg, Int.reduceToNat, Int.reduceMul, ↓reduceIte, Int.reduceGT, Int.reduceGE]
    refine wloop (fun j F h => h = H ∧ F 12 = .int .i64 0 ∧ F 13 = .int .i64 0) 0 ?_ ?_ ?_
    · simp (disch := first | omega | (simp only [List.length_append, List.length_cons, List.length_nil, length_hset, length_hkill]; omega)) only [↓fsPre, fsPost, fsCond, fsGen, npick, nbin, nun, nconv, nnilCheck, noff, nidxArr, nidxSl, nfield, npart, nindex, nextract, nlenSl, nlenStr, ncap, mmx, minmax2, nslice, nsliceArr, nbounds, obound, bound, adv, nbits, eqVal, eqCell, eqCells, nfill, lenOfSl, cls, fresults, fresl, fres1, gt_iff_lt, ge_iff_le, reduceCtorEq, Nat.reduceAdd, Nat.reduceMul, Nat.reduceSub, Nat.reduceLT, Nat.reduceLeDiff, Nat.reduceEqDiff, Nat.reduceBEq, Nat.reduceBNe, Int.reduceLT, Int.reduceLE, Int.reduceEq, Int.reduceNe, Int.reduceAdd, Int.reduceSub, Int.reduceNeg, Int.reduceToNat, Int.reduceMul, ↓reduceIte, Int.reduceGT, Int.reduceGE]
    · intro j F h hj; omega
    · rintro F h ⟨rfl, f12, f13⟩
      simp (disch := first | omega | (simp only [List.length_append, List.length_cons, List.length_nil, length_hset, length_hkill]; omega)) only [↓fsPre, fsPost, fsCond, fsGen, npick, nbin, nun, nconv, nnilCheck, noff, nidxArr, nidxSl, nfield, npart, nindex, nextract, nlenSl, nlenStr, ncap, mmx, minmax2, nslice, nsliceArr, nbounds, obound, bound, adv, nbits, eqVal, eqCell, eqCells, nfill, lenOfSl, cls, fresults, fresl, fres1, gt_iff_lt, ge_iff_le, reduceCtorEq, Nat.reduceAdd, Nat.reduceMul, Nat.reduceSub, Nat.reduceLT, Nat.reduceLeDiff, Nat.reduceEqDiff, Nat.reduceBEq, Nat.reduceBNe, Int.reduceLT, Int.reduceLE, Int.reduceEq, Int.reduceNe, Int.reduceAdd, Int.reduceSub, Int.reduceNeg, Int.reduceToNat, Int.reduceMul, ↓reduceIte, Int.reduceGT, Int.reduceGE, f12, f13]
      exact ⟨[], by simp⟩
  rcases h1 with ⟨rfl, rfl⟩ | ⟨b1, rfl, hb1⟩
  · rcases h2 with ⟨rfl, _⟩ | ⟨b2, rfl, hb2⟩
    · exact nil _ _ _ _
    · exact nil _ _ _ _
  · rcases h2 with ⟨rfl, rfl⟩ | ⟨b2, rfl, hb2⟩
    · exact nil _ _ _ _
    · have := same_ok H b1 b2 0 0 rs.length rs.length (.opn 7) (.opn 7) rs rs (recs rs) (recs rs) false false hb1 hb2 (fun i hi => by rw [Nat.zero_add]; exact recs_cut rs i hi) (fun i hi => by rw [Nat.zero_add]; exact recs_cut rs i hi) hl rfl rfl
      rw [decide_eq_true rfl] at this
      exact this

/-- What the law about reading has in its heap. -/
structure RdS (p11 p12 p13 b : Nat) (q : Nat → Int) (z0 z1 z2 z3 z4 z5 z7 z8 z9 : NV) (nx : Int) (s1 s2 : NV) (all : List Rec) (h : Heap) : Prop where
  b11 : hget h p11 = some (.cells [z0, z1, z2, z3, z4, z5, .slice (some (b, 0)) 3 (.fix 3), z7, z8, z9] false)
  b12 : hget h p12 = some (.cells [.int .i64 nx, s1] false)
  b13 : hget h p13 = some (.cells [s2] false)
  sch : RSch h b q z0 z1 z2 z3 z4 z5 z7 z8 z9
  r1 : RecsFrom 0 h s1 (last24 all)
  r2 : RecsFrom 0 h s2 all
theorem RdS.mono {p11 p12 p13 b : Nat} {q : Nat → Int} {z0 z1 z2 z3 z4 z5 z7 z8 z9 : NV} {nx : Int} {s1 s2 : NV} {all : List Rec} {h h' : Heap} (r : RdS p11 p12 p13 b q z0 z1 z2 z3 z4 z5 z7 z8 z9 nx s1 s2 all h) (o : ∀ b, b < h.length → hget h' b = hget h b) : RdS p11 p12 p13 b q z0 z1 z2 z3 z4 z5 z7 z8 z9 nx s1 s2 all h' :=
  ⟨by rw [o _ (hget_lt r.b11)]; exact r.b11, by rw [o _ (hget_lt r.b12)]; exact r.b12, by rw [o _ (hget_lt r.b13)]; exact r.b13, r.sch.mono o, r.r1.mono o, r.r2.mono o⟩

set_option maxHeartbeats 2000000 in
theorem reads_ok (H : Heap) (v w : NV) (xs ys : List Int) (hv : BytesArg H v xs) (hw : BytesArg H w ys) (role fr cnt : Int) : NFun Try.prog 7 [v, w, .int .i64 role, .int .i64 fr, .int .i64 cnt] H fun q => q.1 = .bool true := by
  refine fun_of_fwp E0 mixed t7_ok.2 (by kernel_rfl) ?_
  rw [fwp_T]
  simp only [t7]
  simp (disch := first | omega | (simp only [List.length_append, List.length_cons, List.length_nil, length_hset, length_hkill]; omega)) only [↓fsPre, fsPost, fsCond, fsGen, npick, nbin, nun, nconv, nnilCheck, noff, nidxArr, nidxSl, nfield, npart, nindex, nextract, nlenSl, nlenStr, ncap, mmx, minmax2, nslice, nsliceArr, nbounds, obound, bound, adv, nbits, eqVal, eqCell, eqCells, nfill, lenOfSl, cls, fresults, fresl, fres1, gt_iff_lt, ge_iff_le, reduceCtorEq, Nat.reduceAdd, Nat.reduceMul, Nat.reduceSub, Nat.reduceLT, Nat.reduceLeDiff, Nat.reduceEqDiff, Nat.reduceBEq, Nat.reduceBNe, Int.reduceLT, Int.reduceLE, Int.reduceEq, Int.reduceNe, Int.reduceAdd, Int.reduceSub, Int.reduceNeg, Int.reduceToNat, Int.reduceMul, ↓reduceIte, Int.reduceGT, Int.reduceGE]
  refine callT_D (codes_ok H v xs 120 hv (by omega)) rfl ?_
  rintro v1 g1 ⟨sl, m, e, hs⟩
  cases e
  simp (disch := first | omega | (simp only [List.length_append, List.length_cons, List.length_nil, length_hset, length_hkill]; omega)) only [↓fsPre, fsPost, fsCond, fsGen, npick, nbin, nun, nconv, nnilCheck, noff, nidxArr, nidxSl, nfield, npart, nindex, nextract, nlenSl, nlenStr, ncap, mmx, minmax2, nslice, nsliceArr, nbounds, obound, bound, adv, nbits, eqVal, eqCell, eqCells, nfill, lenOfSl, cls, fresults, fresl, fres1, gt_iff_lt, ge_iff_le, reduceCtorEq, Nat.reduceAdd, Nat.reduceMul, Nat.reduceSub, Nat.reduceLT, Nat.reduceLeDiff, Nat.reduceEqDiff, Nat.reduceBEq, Nat.reduceBNe, Int.reduceLT, Int.reduceLE, Int.reduceEq, Int.reduceNe, Int.reduceAdd, Int.reduceSub, Int.reduceNeg, Int.reduceToNat, Int.reduceMul, ↓reduceIte, Int.reduceGT, Int.reduceGE]
  refine callT_D (schema_ok _ _ m sl (CodesSt.refl hget_append_new (by omega) (by omega) hs)) rfl ?_
  rintro v2 g2 hq
  obtain ⟨b, q, z0, z1, z2, z3, z4, z5, z7, z8, z9, rfl, sch, hb, hqr, hg2, hold⟩ := hq.roles
  obtain ⟨o0, o1, o2, o3, o4, o5, o7, o8, o9⟩ := sch.2.2.2.2.2.2.2
  simp only [List.length_append, List.length_cons, List.length_nil] at hg2 hold
  have hw2 : BytesArg g2 w ys := bytes_mono hw fun b hb => by rw [hold b (by omega) (by omega), hget_appl hb]
  clear hq hs hold
  simp (disch := first | omega | (simp only [List.length_append, List.length_cons, List.length_nil, length_hset, length_hkill]; omega)) only [↓fsPre, fsPost, fsCond, fsGen, npick, nbin, nun, nconv, nnilCheck, noff, nidxArr, nidxSl, nfield, npart, nindex, nextract, nlenSl, nlenStr, ncap, mmx, minmax2, nslice, nsliceArr, nbounds, obound, bound, adv, nbits, eqVal, eqCell, eqCells, nfill, lenOfSl, cls, fresults, fresl, fres1, gt_iff_lt, ge_iff_le, reduceCtorEq, Nat.reduceAdd, Nat.reduceMul, Nat.reduceSub, Nat.reduceLT, Nat.reduceLeDiff, Nat.reduceEqDiff, Nat.reduceBEq, Nat.reduceBNe, Int.reduceLT, Int.reduceLE, Int.reduceEq, Int.reduceNe, Int.reduceAdd, Int.reduceSub, Int.reduceNeg, Int.reduceToNat, Int.reduceMul, ↓reduceIte, Int.reduceGT, Int.reduceGE, o0, o1, o2, o3, o4, o5, o7, o8, o9]
  refine callT_D (logcall_ok _ w ys hw2.app) rfl ?_
  rintro v3 g3 ⟨s1, s2, rfl, r1, r2, len, old⟩
  have hlen : (ys.take 60).length ≤ 60 := by simp; omega
  generalize ys.take 60 = ks at *
  simp only [List.length_append, List.length_cons, List.length_nil] at len old
  have e0 := old g2.length (by omega)
  simp (disch := first | omega | (simp only [List.length_append, List.length_cons, List.length_nil, length_hset, length_hkill]; omega)) only [↓fsPre, fsPost, fsCond, fsGen, npick, nbin, nun, nconv, nnilCheck, noff, nidxArr, nidxSl, nfield, npart, nindex, nextract, nlenSl, nlenStr, ncap, mmx, minmax2, nslice, nsliceArr, nbounds, obound, bound, adv, nbits, eqVal, eqCell, eqCells, nfill, lenOfSl, cls, fresults, fresl, fres1, gt_iff_lt, ge_iff_le, reduceCtorEq, Nat.reduceAdd, Nat.reduceMul, Nat.reduceSub, Nat.reduceLT, Nat.reduceLeDiff, Nat.reduceEqDiff, Nat.reduceBEq, Nat.reduceBNe, Int.reduceLT, Int.reduceLE, Int.reduceEq, Int.reduceNe, Int.reduceAdd, Int.reduceSub, Int.reduceNeg, Int.reduceToNat, Int.reduceMul, ↓reduceIte, Int.reduceGT, Int.reduceGE] at e0
  have sch3 : RSch g3 b q z0 z1 z2 z3 z4 z5 z7 z8 z9 := sch.mono fun b hb => by rw [old b (by omega), hget_appl hb]
  have os1 := r1.at.one
  have os2 := r2.at.one
  generalize hnx : (if ks.length = 0 then (0 : Int) else (ks.length : Int) + 1) = nx
  simp (disch := first | omega | (simp only [List.length_append, List.length_cons, List.length_nil, length_hset, length_hkill]; omega)) only [↓fsPre, fsPost, fsCond, fsGen, npick, nbin, nun, nconv, nnilCheck, noff, nidxArr, nidxSl, nfield, npart, nindex, nextract, nlenSl, nlenStr, ncap, mmx, minmax2, nslice, nsliceArr, nbounds, obound, bound, adv, nbits, eqVal, eqCell, eqCells, nfill, lenOfSl, cls, fresults, fresl, fres1, gt_iff_lt, ge_iff_le, reduceCtorEq, Nat.reduceAdd, Nat.reduceMul, Nat.reduceSub, Nat.reduceLT, Nat.reduceLeDiff, Nat.reduceEqDiff, Nat.reduceBEq, Nat.reduceBNe, Int.reduceLT, Int.reduceLE, Int.reduceEq, Int.reduceNe, Int.reduceAdd, Int.reduceSub, Int.reduceNeg, Int.reduceToNat, Int.reduceMul, ↓reduceIte, Int.reduceGT, Int.reduceGE, os1, os2]
  have hall : (allRecs ks).length ≤ 60 := by rw [allRecs_length]; exact hlen
  generalize allRecs ks = all at *
  have st0 : RdS g2.length g3.length (g3.length + 1) b q z0 z1 z2 z3 z4 z5 z7 z8 z9 nx s1 s2 all (g3 ++ [some (.cells [.int .i64 nx, s1] false), some (.cells [s2] false), some (.cells [.int .i64 1, .int .i64 2, .int .i64 7, .int .i64 role] false)]) :=
    ⟨by simp (disch := first | omega | (simp only [List.length_append, List.length_cons, List.length_nil, length_hset, length_hkill]; omega)) only [↓fsPre, fsPost, fsCond, fsGen, npick, nbin, nun, nconv, nnilCheck, noff, nidxArr, nidxSl, nfield, npart, nindex, nextract, nlenSl, nlenStr, ncap, mmx, minmax2, nslice, nsliceArr, nbounds, obound, bound, adv, nbits, eqVal, eqCell, eqCells, nfill, lenOfSl, cls, fresults, fresl, fres1, gt_iff_lt, ge_iff_le, reduceCtorEq, Nat.reduceAdd, Nat.reduceMul, Nat.reduceSub, Nat.reduceLT, Nat.reduceLeDiff, Nat.reduceEqDiff, Nat.reduceBEq, Nat.reduceBNe, Int.reduceLT, Int.reduceLE, Int.reduceEq, Int.reduceNe, Int.reduceAdd, Int.reduceSub, Int.reduceNeg, Int.reduceToNat, Int.reduceMul, ↓reduceIte, Int.reduceGT, Int.reduceGE, e0], by simp (disch := first | omega | (simp only [List.length_append, List.length_cons, List.length_nil, length_hset, length_hkill]; omega)) only [↓fsPre, fsPost, fsCond, fsGen, npick, nbin, nun, nconv, nnilCheck, noff, nidxArr, nidxSl, nfield, npart, nindex, nextract, nlenSl, nlenStr, ncap, mmx, minmax2, nslice, nsliceArr, nbounds, obound, bound, adv, nbits, eqVal, eqCell, eqCells, nfill, lenOfSl, cls, fresults, fresl, fres1, gt_iff_lt, ge_iff_le, reduceCtorEq, Nat.reduceAdd, Nat.reduceMul, Nat.reduceSub, Nat.reduceLT, Nat.reduceLeDiff, Nat.reduceEqDiff, Nat.reduceBEq, Nat.reduceBNe, Int.reduceLT, Int.reduceLE, Int.reduceEq, Int.reduceNe, Int.reduceAdd, Int.reduceSub, Int.reduceNeg, Int.reduceToNat, Int.reduceMul, ↓reduceIte, Int.reduceGT, Int.reduceGE], by simp (disch := first | omega | (simp only [List.length_append, List.length_cons, List.length_nil, length_hset, length_hkill]; omega)) only [↓fsPre, fsPost, fsCond, fsGen, npick, nbin, nun, nconv, nnilCheck, noff, nidxArr, nidxSl, nfield, npart, nindex, nextract, nlenSl, nlenStr, ncap, mmx, minmax2, nslice, nsliceArr, nbounds, obound, bound, adv, nbits, eqVal, eqCell, eqCells, nfill, lenOfSl, cls, fresults, fresl, fres1, gt_iff_lt, ge_iff_le, reduceCtorEq, Nat.reduceAdd, Nat.reduceMul, Nat.reduceSub, Nat.reduceLT, Nat.reduceLeDiff, Nat.reduceEqDiff, Nat.reduceBEq, Nat.reduceBNe, Int.reduceLT, Int.reduceLE, Int.reduceEq, Int.reduceNe, Int.reduceAdd, Int.reduceSub, Int.reduceNeg, Int.reduceToNat, Int.reduceMul, ↓reduceIte, Int.reduceGT, Int.reduceGE], sch3.mono fun b hb => hget_appl hb, (r1.low (by omega)).app, (r2.low (by omega)).app⟩
  generalize hp11 : g2.length = p11 at *
  generalize hp12 : g3.length = p12 at *
  refine wloop (fun j F h => RdS p11 p12 (p12 + 1) b q z0 z1 z2 z3 z4 z5 z7 z8 z9 nx s1 s2 all h ∧ F 3 = .int .i64 fr ∧ F 4 = .int .i64 cnt ∧ F 11 = .ptr (some (p11, 0)) ∧ F 12 = .ptr (some (p12, 0)) ∧ F 13 = .ptr (some (p12 + 1, 0)) ∧
    F 33 = .slice (some (p12 + 2, 0)) 4 (.fix 4) ∧ hget h (p12 + 2) = some (.cells [.int .i64 1, .int .i64 2, .int .i64 7, .int .i64 role] false) ∧ F 34 = .int .i64 4 ∧ F 35 = .int .i64 j) 4 ?_ ?_ ?_
  · simp (disch := first | omega | (simp only [List.length_append, List.length_cons, List.length_nil, length_hset, length_hkill]; omega)) only [↓fsPre, fsPost, fsCond, fsGen, npick, nbin, nun, nconv, nnilCheck, noff, nidxArr, nidxSl, nfield, npart, nindex, nextract, nlenSl, nlenStr, ncap, mmx, minmax2, nslice, nsliceArr, nbounds, obound, bound, adv, nbits, eqVal, eqCell, eqCells, nfill, lenOfSl, cls, fresults, fresl, fres1, gt_iff_lt, ge_iff_le, reduceCtorEq, Nat.reduceAdd, Nat.reduceMul, Nat.reduceSub, Nat.reduceLT, Nat.reduceLeDiff, Nat.reduceEqDiff, Nat.reduceBEq, Nat.reduceBNe, Int.reduceLT, Int.reduceLE, Int.reduceEq, Int.reduceNe, Int.reduceAdd, Int.reduceSub, Int.reduceNeg, Int.reduceToNat, Int.reduceMul, ↓reduceIte, Int.reduceGT, Int.reduceGE, hp12]
    exact st0
  · clear st0
    rintro j F h hj ⟨st, f3, f4, f11, f12, f13, f33, b33, f34, f35⟩
    obtain ⟨r, hr⟩ : ∃ r, ([.int .i64 1, .int .i64 2, .int .i64 7, .int .i64 role] : List NV)[j]? = some (.int .i64 r) := by
      match j, hj with
      | 0, _ => exact ⟨_, rfl⟩
      | 1, _ => exact ⟨_, rfl⟩
      | 2, _ => exact ⟨_, rfl⟩
      | 3, _ => exact ⟨_, rfl⟩
    have l33 := hget_some_lt b33
    simp (disch := first | omega | (simp only [List.length_append, List.length_cons, List.length_nil, length_hset, length_hkill]; omega)) only [↓fsPre, fsPost, fsCond, fsGen, npick, nbin, nun, nconv, nnilCheck, noff, nidxArr, nidxSl, nfield, npart, nindex, nextract, nlenSl, nlenStr, ncap, mmx, minmax2, nslice, nsliceArr, nbounds, obound, bound, adv, nbits, eqVal, eqCell, eqCells, nfill, lenOfSl, cls, fresults, fresl, fres1, gt_iff_lt, ge_iff_le, reduceCtorEq, Nat.reduceAdd, Nat.reduceMul, Nat.reduceSub, Nat.reduceLT, Nat.reduceLeDiff, Nat.reduceEqDiff, Nat.reduceBEq, Nat.reduceBNe, Int.reduceLT, Int.reduceLE, Int.reduceEq, Int.reduceNe, Int.reduceAdd, Int.reduceSub, Int.reduceNeg, Int.reduceToNat, Int.reduceMul, ↓reduceIte, Int.reduceGT, Int.reduceGE, f3, f4, f11, f12, f13, f33, b33, f34, f35, hr]
    refine callT_one (mod_ok _ fr 70 (by omega) (by omega)) rfl ?_
    generalize modN fr 70 = fr2
    simp (disch := first | omega | (simp only [List.length_append, List.length_cons, List.length_nil, length_hset, length_hkill]; omega)) only [↓fsPre, fsPost, fsCond, fsGen, npick, nbin, nun, nconv, nnilCheck, noff, nidxArr, nidxSl, nfield, npart, nindex, nextract, nlenSl, nlenStr, ncap, mmx, minmax2, nslice, nsliceArr, nbounds, obound, bound, adv, nbits, eqVal, eqCell, eqCells, nfill, lenOfSl, cls, fresults, fresl, fres1, gt_iff_lt, ge_iff_le, reduceCtorEq, Nat.reduceAdd, Nat.reduceMul, Nat.reduceSub, Nat.reduceLT, Nat.reduceLeDiff, Nat.reduceEqDiff, Nat.reduceBEq, Nat.reduceBNe, Int.reduceLT, Int.reduceLE, Int.reduceEq, Int.reduceNe, Int.reduceAdd, Int.reduceSub, Int.reduceNeg, Int.reduceToNat, Int.reduceMul, ↓reduceIte, Int.reduceGT, Int.reduceGE, f3, f4, f11, f12, f13, f33, b33, f34, f35]
    refine wloop (fun k F h' => RdS p11 p12 (p12 + 1) b q z0 z1 z2 z3 z4 z5 z7 z8 z9 nx s1 s2 all h' ∧ F 3 = .int .i64 fr ∧ F 4 = .int .i64 cnt ∧ F 11 = .ptr (some (p11, 0)) ∧ F 12 = .ptr (some (p12, 0)) ∧ F 13 = .ptr (some (p12 + 1, 0)) ∧
      F 33 = .slice (some (p12 + 2, 0)) 4 (.fix 4) ∧ hget h' (p12 + 2) = some (.cells [.int .i64 1, .int .i64 2, .int .i64 7, .int .i64 role] false) ∧ F 34 = .int .i64 4 ∧ F 35 = .int .i64 j ∧ F 15 = .int .i64 r ∧
      F 42 = .slice (some (h.length, 0)) 2 (.fix 2) ∧ hget h' h.length = some (.cells [.int .i64 fr, .int .i64 fr2] false) ∧ F 43 = .int .i64 2 ∧ F 44 = .int .i64 k) 2 ?_ ?_ ?_
    · simp (disch := first | omega | (simp only [List.length_append, List.length_cons, List.length_nil, length_hset, length_hkill]; omega)) only [↓fsPre, fsPost, fsCond, fsGen, npick, nbin, nun, nconv, nnilCheck, noff, nidxArr, nidxSl, nfield, npart, nindex, nextract, nlenSl, nlenStr, ncap, mmx, minmax2, nslice, nsliceArr, nbounds, obound, bound, adv, nbits, eqVal, eqCell, eqCells, nfill, lenOfSl, cls, fresults, fresl, fres1, gt_iff_lt, ge_iff_le, reduceCtorEq, Nat.reduceAdd, Nat.reduceMul, Nat.reduceSub, Nat.reduceLT, Nat.reduceLeDiff, Nat.reduceEqDiff, Nat.reduceBEq, Nat.reduceBNe, Int.reduceLT, Int.reduceLE, Int.reduceEq, Int.reduceNe, Int.reduceAdd, Int.reduceSub, Int.reduceNeg, Int.reduceToNat, Int.reduceMul, ↓reduceIte, Int.reduceGT, Int.reduceGE, f3, f4, f11, f12, f13, f33, b33, f34, f35]
      exact st.mono fun b hb => hget_appl hb
    · clear st f3 f4 f11 f12 f13 f33 b33 f34 f35
      generalize h.length = p42
      clear l33 F h
      rintro k F h hk ⟨st, f3, f4, f11, f12, f13, f33, b33, f34, f35, f15, f42, b42, f43, f44⟩
      obtain ⟨f, hf⟩ : ∃ f, ([.int .i64 fr, .int .i64 fr2] : List NV)[k]? = some (.int .i64 f) := by
        match k, hk with
        | 0, _ => exact ⟨_, rfl⟩
        | 1, _ => exact ⟨_, rfl⟩
      have l33 := hget_some_lt b33
      have l42 := hget_some_lt b42
      simp (disch := first | omega | (simp only [List.length_append, List.length_cons, List.length_nil, length_hset, length_hkill]; omega)) only [↓fsPre, fsPost, fsCond, fsGen, npick, nbin, nun, nconv, nnilCheck, noff, nidxArr, nidxSl, nfield, npart, nindex, nextract, nlenSl, nlenStr, ncap, mmx, minmax2, nslice, nsliceArr, nbounds, obound, bound, adv, nbits, eqVal, eqCell, eqCells, nfill, lenOfSl, cls, fresults, fresl, fres1, gt_iff_lt, ge_iff_le, reduceCtorEq, Nat.reduceAdd, Nat.reduceMul, Nat.reduceSub, Nat.reduceLT, Nat.reduceLeDiff, Nat.reduceEqDiff, Nat.reduceBEq, Nat.reduceBNe, Int.reduceLT, Int.reduceLE, Int.reduceEq, Int.reduceNe, Int.reduceAdd, Int.reduceSub, Int.reduceNeg, Int.reduceToNat, Int.reduceMul, ↓reduceIte, Int.reduceGT, Int.reduceGE, f3, f4, f11, f12, f13, f33, b33, f34, f35, f15, f42, b42, f43, f44, hf]
      refine callT_one (mod_ok _ cnt 27 (by omega) (by omega)) rfl ?_
      generalize modN cnt 27 = cnt2
      simp (disch := first | omega | (simp only [List.length_append, List.length_cons, List.length_nil, length_hset, length_hkill]; omega)) only [↓fsPre, fsPost, fsCond, fsGen, npick, nbin, nun, nconv, nnilCheck, noff, nidxArr, nidxSl, nfield, npart, nindex, nextract, nlenSl, nlenStr, ncap, mmx, minmax2, nslice, nsliceArr, nbounds, obound, bound, adv, nbits, eqVal, eqCell, eqCells, nfill, lenOfSl, cls, fresults, fresl, fres1, gt_iff_lt, ge_iff_le, reduceCtorEq, Nat.reduceAdd, Nat.reduceMul, Nat.reduceSub, Nat.reduceLT, Nat.reduceLeDiff, Nat.reduceEqDiff, Nat.reduceBEq, Nat.reduceBNe, Int.reduceLT, Int.reduceLE, Int.reduceEq, Int.reduceNe, Int.reduceAdd, Int.reduceSub, Int.reduceNeg, Int.reduceToNat, Int.reduceMul, ↓reduceIte, Int.reduceGT, Int.reduceGE, f3, f4, f11, f12, f13, f33, b33, f34, f35, f15, f42, b42, f43, f44, hf]
      refine wloop (fun i F h' => RdS p11 p12 (p12 + 1) b q z0 z1 z2 z3 z4 z5 z7 z8 z9 nx s1 s2 all h' ∧ F 3 = .int .i64 fr ∧ F 4 = .int .i64 cnt ∧ F 11 = .ptr (some (p11, 0)) ∧ F 12 = .ptr (some (p12, 0)) ∧ F 13 = .ptr (some (p12 + 1, 0)) ∧
        F 33 = .slice (some (p12 + 2, 0)) 4 (.fix 4) ∧ hget h' (p12 + 2) = some (.cells [.int .i64 1, .int .i64 2, .int .i64 7, .int .i64 role] false) ∧ F 34 = .int .i64 4 ∧ F 35 = .int .i64 j ∧ F 15 = .int .i64 r ∧
        F 42 = .slice (some (p42, 0)) 2 (.fix 2) ∧ hget h' p42 = some (.cells [.int .i64 fr, .int .i64 fr2] false) ∧ F 43 = .int .i64 2 ∧ F 44 = .int .i64 k ∧ F 17 = .int .i64 f ∧
        F 51 = .slice (some (h.length, 0)) 2 (.fix 2) ∧ hget h' h.length = some (.cells [.int .i64 cnt, .int .i64 cnt2] false) ∧ F 52 = .int .i64 2 ∧ F 53 = .int .i64 i) 2 ?_ ?_ ?_
      · simp (disch := first | omega | (simp only [List.length_append, List.length_cons, List.length_nil, length_hset, length_hkill]; omega)) only [↓fsPre, fsPost, fsCond, fsGen, npick, nbin, nun, nconv, nnilCheck, noff, nidxArr, nidxSl, nfield, npart, nindex, nextract, nlenSl, nlenStr, ncap, mmx, minmax2, nslice, nsliceArr, nbounds, obound, bound, adv, nbits, eqVal, eqCell, eqCells, nfill, lenOfSl, cls, fresults, fresl, fres1, gt_iff_lt, ge_iff_le, reduceCtorEq, Nat.reduceAdd, Nat.reduceMul, Nat.reduceSub, Nat.reduceLT, Nat.reduceLeDiff, Nat.reduceEqDiff, Nat.reduceBEq, Nat.reduceBNe, Int.reduceLT, Int.reduceLE, Int.reduceEq, Int.reduceNe, Int.reduceAdd, Int.reduceSub, Int.reduceNeg, Int.reduceToNat, Int.reduceMul, ↓reduceIte, Int.reduceGT, Int.reduceGE, f3, f4, f11, f12, f13, f33, b33, f34, f35, f15, f42, b42, f43, f44]
        exact st.mono fun b hb => hget_appl hb
      · clear st f3 f4 f11 f12 f13 f33 b33 f34 f35 f15 f42 b42 f43 f44
        generalize h.length = p51
        clear l33 l42 F h
        rintro i F h hi ⟨st, f3, f4, f11, f12, f13, f33, b33, f34, f35, f15, f42, b42, f43, f44, f17, f51, b51, f52, f53⟩
        obtain ⟨n, hn⟩ : ∃ n, ([.int .i64 cnt, .int .i64 cnt2] : List NV)[i]? = some (.int .i64 n) := by
          match i, hi with
          | 0, _ => exact ⟨_, rfl⟩
          | 1, _ => exact ⟨_, rfl⟩
        have l33 := hget_some_lt b33
        have l42 := hget_some_lt b42
        have l51 := hget_some_lt b51
        have b11 := st.b11
        have b12 := st.b12
        have b13 := st.b13
        have l11 := hget_some_lt b11
        have l12 := hget_some_lt b12
        have l13 := hget_some_lt b13
        simp (disch := first | omega | (simp only [List.length_append, List.length_cons, List.length_nil, length_hset, length_hkill]; omega)) only [↓fsPre, fsPost, fsCond, fsGen, npick, nbin, nun, nconv, nnilCheck, noff, nidxArr, nidxSl, nfield, npart, nindex, nextract, nlenSl, nlenStr, ncap, mmx, minmax2, nslice, nsliceArr, nbounds, obound, bound, adv, nbits, eqVal, eqCell, eqCells, nfill, lenOfSl, cls, fresults, fresl, fres1, gt_iff_lt, ge_iff_le, reduceCtorEq, Nat.reduceAdd, Nat.reduceMul, Nat.reduceSub, Nat.reduceLT, Nat.reduceLeDiff, Nat.reduceEqDiff, Nat.reduceBEq, Nat.reduceBNe, Int.reduceLT, Int.reduceLE, Int.reduceEq, Int.reduceNe, Int.reduceAdd, Int.reduceSub, Int.reduceNeg, Int.reduceToNat, Int.reduceMul, ↓reduceIte, Int.reduceGT, Int.reduceGE, f3, f4, f11, f12, f13, f33, b33, f34, f35, f15, f42, b42, f43, f44, f17, f51, b51, f52, f53, hn, b11, b12, b13]
        refine callT_D (records_ok h nx s1 (last24 all) b q z0 z1 z2 z3 z4 z5 z7 z8 z9 r f n st.sch st.r1.at.rows (by rw [last24_length]; omega)) rfl ?_
        rintro v4 g4 ⟨w1, L1, e, hw1⟩
        cases e
        have st1 := st.mono (h' := h ++ L1) fun b hb => hget_appl hb
        simp (disch := first | omega | (simp only [List.length_append, List.length_cons, List.length_nil, length_hset, length_hkill]; omega)) only [↓fsPre, fsPost, fsCond, fsGen, npick, nbin, nun, nconv, nnilCheck, noff, nidxArr, nidxSl, nfield, npart, nindex, nextract, nlenSl, nlenStr, ncap, mmx, minmax2, nslice, nsliceArr, nbounds, obound, bound, adv, nbits, eqVal, eqCell, eqCells, nfill, lenOfSl, cls, fresults, fresl, fres1, gt_iff_lt, ge_iff_le, reduceCtorEq, Nat.reduceAdd, Nat.reduceMul, Nat.reduceSub, Nat.reduceLT, Nat.reduceLeDiff, Nat.reduceEqDiff, Nat.reduceBEq, Nat.reduceBNe, Int.reduceLT, Int.reduceLE, Int.reduceEq, Int.reduceNe, Int.reduceAdd, Int.reduceSub, Int.reduceNeg, Int.reduceToNat, Int.reduceMul, ↓reduceIte, Int.reduceGT, Int.reduceGE, f3, f4, f11, f12, f13, f33, b33, f34, f35, f15, f42, b42, f43, f44, f17, f51, b51, f52, f53, hn, b11, b12, b13]
        refine callT_D (rrecords_ok (h ++ L1) s2 all (last24 all) b q z0 z1 z2 z3 z4 z5 z7 z8 z9 r f n st1.sch st1.r2 (by omega) rfl) rfl ?_
        rintro v5 g5 ⟨w2, L2, e, hw2'⟩
        cases e
        have hsel : (recL (last24 all) r f n).length ≤ 1000 := by
          unfold recL
          split
          · have := selR_le (last24 all) r f n
            rw [last24_length] at this; omega
          · simp
        have hsame := sameE_ok (h ++ L1 ++ L2) w1 w2 (recL (last24 all) r f n) hw1.app.at hw2'.at hsel
        simp (disch := first | omega | (simp only [List.length_append, List.length_cons, List.length_nil, length_hset, length_hkill]; omega)) only [↓fsPre, fsPost, fsCond, fsGen, npick, nbin, nun, nconv, nnilCheck, noff, nidxArr, nidxSl, nfield, npart, nindex, nextract, nlenSl, nlenStr, ncap, mmx, minmax2, nslice, nsliceArr, nbounds, obound, bound, adv, nbits, eqVal, eqCell, eqCells, nfill, lenOfSl, cls, fresults, fresl, fres1, gt_iff_lt, ge_iff_le, reduceCtorEq, Nat.reduceAdd, Nat.reduceMul, Nat.reduceSub, Nat.reduceLT, Nat.reduceLeDiff, Nat.reduceEqDiff, Nat.reduceBEq, Nat.reduceBNe, Int.reduceLT, Int.reduceLE, Int.reduceEq, Int.reduceNe, Int.reduceAdd, Int.reduceSub, Int.reduceNeg, Int.reduceToNat, Int.reduceMul, ↓reduceIte, Int.reduceGT, Int.reduceGE, f3, f4, f11, f12, f13, f33, b33, f34, f35, f15, f42, b42, f43, f44, f17, f51, b51, f52, f53, hn, b11, b12, b13]
        refine callT_one hsame rfl ?_
        simp (disch := first | omega | (simp only [List.length_append, List.length_cons, List.length_nil, length_hset, length_hkill]; omega)) only [↓fsPre, fsPost, fsCond, fsGen, npick, nbin, nun, nconv, nnilCheck, noff, nidxArr, nidxSl, nfield, npart, nindex, nextract, nlenSl, nlenStr, ncap, mmx, minmax2, nslice, nsliceArr, nbounds, obound, bound, adv, nbits, eqVal, eqCell, eqCells, nfill, lenOfSl, cls, fresults, fresl, fres1, gt_iff_lt, ge_iff_le, reduceCtorEq, Nat.reduceAdd, Nat.reduceMul, Nat.reduceSub, Nat.reduceLT, Nat.reduceLeDiff, Nat.reduceEqDiff, Nat.reduceBEq, Nat.reduceBNe, Int.reduceLT, Int.reduceLE, Int.reduceEq, Int.reduceNe, Int.reduceAdd, Int.reduceSub, Int.reduceNeg, Int.reduceToNat, Int.reduceMul, ↓reduceIte, Int.reduceGT, Int.reduceGE, f3, f4, f11, f12, f13, f33, b33, f34, f35, f15, f42, b42, f43, f44, f17, f51, b51, f52, f53, hn, b11, b12, b13]
        exact st.mono fun b hb => hget_appl hb
      · rintro F' h' ⟨st, f3, f4, f11, f12, f13, f33, b33, f34, f35, f15, f42, b42, f43, f44, f17, f51, b51, f52, f53⟩
        simp (disch := first | omega | (simp only [List.length_append, List.length_cons, List.length_nil, length_hset, length_hkill]; omega)) only [↓fsPre, fsPost, fsCond, fsGen, npick, nbin, nun, nconv, nnilCheck, noff, nidxArr, nidxSl, nfield, npart, nindex, nextract, nlenSl, nlenStr, ncap, mmx, minmax2, nslice, nsliceArr, nbounds, obound, bound, adv, nbits, eqVal, eqCell, eqCells, nfill, lenOfSl, cls, fresults, fresl, fres1, gt_iff_lt, ge_iff_le, reduceCtorEq, Nat.reduceAdd, Nat.reduceMul, Nat.reduceSub, Nat.reduceLT, Nat.reduceLeDiff, Nat.reduceEqDiff, Nat.reduceBEq, Nat.reduceBNe, Int.reduceLT, Int.reduceLE, Int.reduceEq, Int.reduceNe, Int.reduceAdd, Int.reduceSub, Int.reduceNeg, Int.reduceToNat, Int.reduceMul, ↓reduceIte, Int.reduceGT, Int.reduceGE, f3, f4, f11, f12, f13, f33, b33, f34, f35, f15, f42, b42, f43, f44, f17, f51, b51, f52, f53]
        exact st
    · rintro F' h' ⟨st, f3, f4, f11, f12, f13, f33, b33, f34, f35, f15, f42, b42, f43, f44⟩
      simp (disch := first | omega | (simp only [List.length_append, List.length_cons, List.length_nil, length_hset, length_hkill]; omega)) only [↓fsPre, fsPost, fsCond, fsGen, npick, nbin, nun, nconv, nnilCheck, noff, nidxArr, nidxSl, nfield, npart, nindex, nextract, nlenSl, nlenStr, ncap, mmx, minmax2, nslice, nsliceArr, nbounds, obound, bound, adv, nbits, eqVal, eqCell, eqCells, nfill, lenOfSl, cls, fresults, fresl, fres1, gt_iff_lt, ge_iff_le, reduceCtorEq, Nat.reduceAdd, Nat.reduceMul, Nat.reduceSub, Nat.reduceLT, Nat.reduceLeDiff, Nat.reduceEqDiff, Nat.reduceBEq, Nat.reduceBNe, Int.reduceLT, Int.reduceLE, Int.reduceEq, Int.reduceNe, Int.reduceAdd, Int.reduceSub, Int.reduceNeg, Int.reduceToNat, Int.reduceMul, ↓reduceIte, Int.reduceGT, Int.reduceGE, f3, f4, f11, f12, f13, f33, b33, f34, f35, f15, f42, b42, f43, f44]
      exact st
  · rintro F h ⟨st, f3, f4, f11, f12, f13, f33, b33, f34, f35⟩
    simp (disch := first | omega | (simp only [List.length_append, List.length_cons, List.length_nil, length_hset, length_hkill]; omega)) only [↓fsPre, fsPost, fsCond, fsGen, npick, nbin, nun, nconv, nnilCheck, noff, nidxArr, nidxSl, nfield, npart, nindex, nextract, nlenSl, nlenStr, ncap, mmx, minmax2, nslice, nsliceArr, nbounds, obound, bound, adv, nbits, eqVal, eqCell, eqCells, nfill, lenOfSl, cls, fresults, fresl, fres1, gt_iff_lt, ge_iff_le, reduceCtorEq, Nat.reduceAdd, Nat.reduceMul, Nat.reduceSub, Nat.reduceLT, Nat.reduceLeDiff, Nat.reduceEqDiff, Nat.reduceBEq, Nat.reduceBNe, Int.reduceLT, Int.reduceLE, Int.reduceEq, Int.reduceNe, Int.reduceAdd, Int.reduceSub, Int.reduceNeg, Int.reduceToNat, Int.reduceMul, ↓reduceIte, Int.reduceGT, Int.reduceGE, f3, f4, f11, f12, f13, f33, b33, f34, f35]
    refine callT_one (begun24_ok _) rfl ?_
    simp (disch := first | omega | (simp only [List.length_append, List.length_cons, List.length_nil, length_hset, length_hkill]; omega)) only [↓fsPre, fsPost, fsCond, fsGen, npick, nbin, nun, nconv, nnilCheck, noff, nidxArr, nidxSl, nfield, npart, nindex, nextract, nlenSl, nlenStr, ncap, mmx, minmax2, nslice, nsliceArr, nbounds, obound, bound, adv, nbits, eqVal, eqCell, eqCells, nfill, lenOfSl, cls, fresults, fresl, fres1, gt_iff_lt, ge_iff_le, reduceCtorEq, Nat.reduceAdd, Nat.reduceMul, Nat.reduceSub, Nat.reduceLT, Nat.reduceLeDiff, Nat.reduceEqDiff, Nat.reduceBEq, Nat.reduceBNe, Int.reduceLT, Int.reduceLE, Int.reduceEq, Int.reduceNe, Int.reduceAdd, Int.reduceSub, Int.reduceNeg, Int.reduceToNat, Int.reduceMul, ↓reduceIte, Int.reduceGT, Int.reduceGE]

def kindsReads : List PK := [.sl [.int .u8], .sl [.int .u8], .flat [.int .i64] false, .flat [.int .i64] false, .flat [.int .i64] false]
theorem walkReads (nvs : List NV) (h : Heap) (ok : argsOK kindsReads 0 nvs h) : NFun Try.prog 7 nvs h (fun q => q.1 = .bool true) := by
  obtain ⟨v, vs, x, h, rfl, rfl, h1, ok⟩ := argsOK_cons ok
  obtain ⟨w, vs, y, h, rfl, rfl, h2, ok⟩ := argsOK_cons ok
  obtain ⟨u, vs, x3, h, rfl, rfl, h3, ok⟩ := argsOK_cons ok
  obtain ⟨u, vs, x4, h, rfl, rfl, h4, ok⟩ := argsOK_cons ok
  obtain ⟨u, vs, x5, h, rfl, rfl, h5, ok⟩ := argsOK_cons ok
  obtain ⟨rfl, rfl⟩ := argsOK_nil ok
  obtain ⟨a, rfl, _, rfl⟩ := argOK_int h3
  obtain ⟨b, rfl, _, rfl⟩ := argOK_int h4
  obtain ⟨c, rfl, _, rfl⟩ := argOK_int h5
  obtain ⟨xs, hx⟩ := argOK_bytes (H := [x, y, none, none, none]) h1 rfl
  obtain ⟨ys, hy⟩ := argOK_bytes (H := [x, y, none, none, none]) h2 rfl
  exact reads_ok _ _ _ xs ys hx hy a b c
end Go.Proofs
