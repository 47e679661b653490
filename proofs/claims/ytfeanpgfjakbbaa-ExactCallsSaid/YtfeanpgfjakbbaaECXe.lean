/- Exact: ExactNone. -/
import Derived.Test.YtfeanpgfjakbbaaECXd
set_option linter.unusedSimpArgs false
set_option linter.unusedVariables false
set_option maxRecDepth 100000
namespace Go.Proofs
open Go.Ns

theorem nget_ok (H : Heap) (k : Pt) : NCall Try.prog 14 [.ptr none, .agg (ptC k)] H fun r => r = (.tup [.int .i64 0, .bool false], H) := by
  refine call_pure E0 mixed t14_ok (by kernel_rfl) ⟨trivial, trivial, trivial⟩ ?_
  simp only [t14]
  simp (disch := first | omega | (simp only [List.length_append, List.length_cons, List.length_nil, length_hset, length_hkill]; omega)) only [↓fsPre, fsPost, fsCond, fsGen, npick, nbin, nun, nconv, nnilCheck, noff, nidxArr, nidxSl, nfield, npart, nindex, nextract, nlenSl, nlenStr, ncap, mmx, minmax2, nslice, nsliceArr, nbounds, obound, bound, adv, nbits, eqVal, eqCell, eqCells, nfill, lenOfSl, cls, fresults, fresl, fres1, gt_iff_lt, ge_iff_le, reduceCtorEq, Nat.reduceAdd, Nat.reduceMul, Nat.reduceSub, Nat.reduceLT, Nat.reduceLeDiff, Nat.reduceEqDiff, Nat.reduceBEq, Nat.reduceBNe, Int.reduceLT, Int.reduceLE, Int.reduceEq, Int.reduceNe, Int.reduceAdd, Int.reduceSub, Int.reduceNeg, Int.reduceToNat, Int.reduceMul, ↓reduceIte, Int.reduceGT, Int.reduceGE, ptC_one, ptC_cut]
  exact ⟨_, rfl⟩
theorem nput_ok (H : Heap) (k : Pt) (i : Int) : NCall Try.prog 7 [.ptr none, .agg (ptC k), .int .i64 i] H fun r => r = (.bool false, H) := by
  refine call_pure E0 mixed t7_ok (by kernel_rfl) trivial ?_
  simp only [t7]
  simp (disch := first | omega | (simp only [List.length_append, List.length_cons, List.length_nil, length_hset, length_hkill]; omega)) only [↓fsPre, fsPost, fsCond, fsGen, npick, nbin, nun, nconv, nnilCheck, noff, nidxArr, nidxSl, nfield, npart, nindex, nextract, nlenSl, nlenStr, ncap, mmx, minmax2, nslice, nsliceArr, nbounds, obound, bound, adv, nbits, eqVal, eqCell, eqCells, nfill, lenOfSl, cls, fresults, fresl, fres1, gt_iff_lt, ge_iff_le, reduceCtorEq, Nat.reduceAdd, Nat.reduceMul, Nat.reduceSub, Nat.reduceLT, Nat.reduceLeDiff, Nat.reduceEqDiff, Nat.reduceBEq, Nat.reduceBNe, Int.reduceLT, Int.reduceLE, Int.reduceEq, Int.reduceNe, Int.reduceAdd, Int.reduceSub, Int.reduceNeg, Int.reduceToNat, Int.reduceMul, ↓reduceIte, Int.reduceGT, Int.reduceGE, ptC_one, ptC_cut]
  exact ⟨_, rfl⟩
theorem nrem_ok (H : Heap) (k : Pt) : NCall Try.prog 9 [.ptr none, .agg (ptC k)] H fun r => r = (.bool false, H) := by
  refine call_pure E0 mixed t9_ok (by kernel_rfl) trivial ?_
  simp only [t9]
  simp (disch := first | omega | (simp only [List.length_append, List.length_cons, List.length_nil, length_hset, length_hkill]; omega)) only [↓fsPre, fsPost, fsCond, fsGen, npick, nbin, nun, nconv, nnilCheck, noff, nidxArr, nidxSl, nfield, npart, nindex, nextract, nlenSl, nlenStr, ncap, mmx, minmax2, nslice, nsliceArr, nbounds, obound, bound, adv, nbits, eqVal, eqCell, eqCells, nfill, lenOfSl, cls, fresults, fresl, fres1, gt_iff_lt, ge_iff_le, reduceCtorEq, Nat.reduceAdd, Nat.reduceMul, Nat.reduceSub, Nat.reduceLT, Nat.reduceLeDiff, Nat.reduceEqDiff, Nat.reduceBEq, Nat.reduceBNe, Int.reduceLT, Int.reduceLE, Int.reduceEq, Int.reduceNe, Int.reduceAdd, Int.reduceSub, Int.reduceNeg, Int.reduceToNat, Int.reduceMul, ↓reduceIte, Int.reduceGT, Int.reduceGE, ptC_one, ptC_cut]
  refine callT_one (nget_ok _ k) rfl ?_
  simp (disch := first | omega | (simp only [List.length_append, List.length_cons, List.length_nil, length_hset, length_hkill]; omega)) only [↓fsPre, fsPost, fsCond, fsGen, npick, nbin, nun, nconv, nnilCheck, noff, nidxArr, nidxSl, nfield, npart, nindex, nextract, nlenSl, nlenStr, ncap, mmx, minmax2, nslice, nsliceArr, nbounds, obound, bound, adv, nbits, eqVal, eqCell, eqCells, nfill, lenOfSl, cls, fresults, fresl, fres1, gt_iff_lt, ge_iff_le, reduceCtorEq, Nat.reduceAdd, Nat.reduceMul, Nat.reduceSub, Nat.reduceLT, Nat.reduceLeDiff, Nat.reduceEqDiff, Nat.reduceBEq, Nat.reduceBNe, Int.reduceLT, Int.reduceLE, Int.reduceEq, Int.reduceNe, Int.reduceAdd, Int.reduceSub, Int.reduceNeg, Int.reduceToNat, Int.reduceMul, ↓reduceIte, Int.reduceGT, Int.reduceGE, ptC_one, ptC_cut]
  exact ⟨_, rfl⟩
theorem nlen_ok (H : Heap) : NCall Try.prog 16 [.ptr none] H fun r => r = (.int .i64 0, H) := by
  refine call_pure E0 mixed t16_ok (by kernel_rfl) trivial ?_
  simp only [t16]
  simp (disch := first | omega | (simp only [List.length_append, List.length_cons, List.length_nil, length_hset, length_hkill]; omega)) only [↓fsPre, fsPost, fsCond, fsGen, npick, nbin, nun, nconv, nnilCheck, noff, nidxArr, nidxSl, nfield, npart, nindex, nextract, nlenSl, nlenStr, ncap, mmx, minmax2, nslice, nsliceArr, nbounds, obound, bound, adv, nbits, eqVal, eqCell, eqCells, nfill, lenOfSl, cls, fresults, fresl, fres1, gt_iff_lt, ge_iff_le, reduceCtorEq, Nat.reduceAdd, Nat.reduceMul, Nat.reduceSub, Nat.reduceLT, Nat.reduceLeDiff, Nat.reduceEqDiff, Nat.reduceBEq, Nat.reduceBNe, Int.reduceLT, Int.reduceLE, Int.reduceEq, Int.reduceNe, Int.reduceAdd, Int.reduceSub, Int.reduceNeg, Int.reduceToNat, Int.reduceMul, ↓reduceIte, Int.reduceGT, Int.reduceGE]
  exact ⟨[], by simp⟩
theorem nall_ok (H : Heap) : NCall Try.prog 10 [.ptr none] H fun r => r = (.slice none 0 (.fix 0), H) := by
  refine call_pure E0 mixed t10_ok (by kernel_rfl) trivial ?_
  simp only [t10]
  simp (disch := first | omega | (simp only [List.length_append, List.length_cons, List.length_nil, length_hset, length_hkill]; omega)) only [↓fsPre, fsPost, fsCond, fsGen, npick, nbin, nun, nconv, nnilCheck, noff, nidxArr, nidxSl, nfield, npart, nindex, nextract, nlenSl, nlenStr, ncap, mmx, minmax2, nslice, nsliceArr, nbounds, obound, bound, adv, nbits, eqVal, eqCell, eqCells, nfill, lenOfSl, cls, fresults, fresl, fres1, gt_iff_lt, ge_iff_le, reduceCtorEq, Nat.reduceAdd, Nat.reduceMul, Nat.reduceSub, Nat.reduceLT, Nat.reduceLeDiff, Nat.reduceEqDiff, Nat.reduceBEq, Nat.reduceBNe, Int.reduceLT, Int.reduceLE, Int.reduceEq, Int.reduceNe, Int.reduceAdd, Int.reduceSub, Int.reduceNeg, Int.reduceToNat, Int.reduceMul, ↓reduceIte, Int.reduceGT, Int.reduceGE]
  exact ⟨[], by simp⟩
theorem opC_pt (o : XOp) : cut (opC o) 2 8 = some (ptC o.pt) := rfl
theorem prC_id (x : Pt × Int) : (prC x)[8]? = some (.int .i64 x.2) := rfl

theorem splice_one {cs : List NV} {o : Nat} {v : NV} (h : o < cs.length) : splice cs o [v] = cs.set o v := by
  unfold splice
  rw [List.set_eq_take_append_cons_drop, if_pos h]
  rfl

set_option maxHeartbeats 4000000 in
theorem none_ok (H : Heap) (o : XOp) (v : NV) (os : List XOp) (h1 : OpsArg H v os) : NFun Try.prog 5 [.agg (opC o), v] H fun q => q.1 = .bool true := by
  refine fun_of_fwp E0 mixed t5_ok.2 (by kernel_rfl) ?_
  rw [fwp_T]
  simp only [t5]
  obtain ⟨A1, m1, rfl, hm1, hm1', hA1⟩ := h1.shape
  have eN : ∀ n : Nat, (if (10 : Int) < n then (10 : Int) else n) = (min 10 n : Nat) := by intro n; split <;> omega
  have hN1 : min 10 os.length ≤ 10 ∧ min 10 os.length ≤ os.length := by omega
  have eN1 := eN os.length
  generalize min 10 os.length = N1 at *
  have eA1 : (if m1 = 0 then A1 else Option.map (fun x => (x.fst, x.snd)) A1) = A1 := by cases A1 <;> simp
  have o1 : OIn (fun b => b < H.length) H A1 os := fun h0 => by
    obtain ⟨b, cs, ro, x1, x2, x3⟩ := hA1 h0
    exact ⟨b, cs, ro, x1, hget_lt x2, x2, x3⟩
  clear eN hA1 h1
  simp (disch := first | omega | (simp only [List.length_append, List.length_cons, List.length_nil, length_hset, length_hkill]; omega)) only [↓fsPre, fsPost, fsCond, fsGen, npick, nbin, nun, nconv, nnilCheck, noff, nidxArr, nidxSl, nfield, npart, nindex, nextract, nlenSl, nlenStr, ncap, mmx, minmax2, nslice, nsliceArr, nbounds, obound, bound, adv, nbits, eqVal, eqCell, eqCells, nfill, lenOfSl, cls, fresults, fresl, fres1, gt_iff_lt, ge_iff_le, reduceCtorEq, Nat.reduceAdd, Nat.reduceMul, Nat.reduceSub, Nat.reduceLT, Nat.reduceLeDiff, Nat.reduceEqDiff, Nat.reduceBEq, Nat.reduceBNe, Int.reduceLT, Int.reduceLE, Int.reduceEq, Int.reduceNe, Int.reduceAdd, Int.reduceSub, Int.reduceNeg, Int.reduceToNat, Int.reduceMul, ↓reduceIte, Int.reduceGT, Int.reduceGE, opC_one, opC_pt]
  refine callT_one (nget_ok _ o.pt) rfl ?_
  simp (disch := first | omega | (simp only [List.length_append, List.length_cons, List.length_nil, length_hset, length_hkill]; omega)) only [↓fsPre, fsPost, fsCond, fsGen, npick, nbin, nun, nconv, nnilCheck, noff, nidxArr, nidxSl, nfield, npart, nindex, nextract, nlenSl, nlenStr, ncap, mmx, minmax2, nslice, nsliceArr, nbounds, obound, bound, adv, nbits, eqVal, eqCell, eqCells, nfill, lenOfSl, cls, fresults, fresl, fres1, gt_iff_lt, ge_iff_le, reduceCtorEq, Nat.reduceAdd, Nat.reduceMul, Nat.reduceSub, Nat.reduceLT, Nat.reduceLeDiff, Nat.reduceEqDiff, Nat.reduceBEq, Nat.reduceBNe, Int.reduceLT, Int.reduceLE, Int.reduceEq, Int.reduceNe, Int.reduceAdd, Int.reduceSub, Int.reduceNeg, Int.reduceToNat, Int.reduceMul, ↓reduceIte, Int.reduceGT, Int.reduceGE, opC_one, opC_pt]
  refine callT_one (nput_ok _ o.pt _) rfl ?_
  simp (disch := first | omega | (simp only [List.length_append, List.length_cons, List.length_nil, length_hset, length_hkill]; omega)) only [↓fsPre, fsPost, fsCond, fsGen, npick, nbin, nun, nconv, nnilCheck, noff, nidxArr, nidxSl, nfield, npart, nindex, nextract, nlenSl, nlenStr, ncap, mmx, minmax2, nslice, nsliceArr, nbounds, obound, bound, adv, nbits, eqVal, eqCell, eqCells, nfill, lenOfSl, cls, fresults, fresl, fres1, gt_iff_lt, ge_iff_le, reduceCtorEq, Nat.reduceAdd, Nat.reduceMul, Nat.reduceSub, Nat.reduceLT, Nat.reduceLeDiff, Nat.reduceEqDiff, Nat.reduceBEq, Nat.reduceBNe, Int.reduceLT, Int.reduceLE, Int.reduceEq, Int.reduceNe, Int.reduceAdd, Int.reduceSub, Int.reduceNeg, Int.reduceToNat, Int.reduceMul, ↓reduceIte, Int.reduceGT, Int.reduceGE, opC_one, opC_pt]
  refine callT_one (nrem_ok _ o.pt) rfl ?_
  simp (disch := first | omega | (simp only [List.length_append, List.length_cons, List.length_nil, length_hset, length_hkill]; omega)) only [↓fsPre, fsPost, fsCond, fsGen, npick, nbin, nun, nconv, nnilCheck, noff, nidxArr, nidxSl, nfield, npart, nindex, nextract, nlenSl, nlenStr, ncap, mmx, minmax2, nslice, nsliceArr, nbounds, obound, bound, adv, nbits, eqVal, eqCell, eqCells, nfill, lenOfSl, cls, fresults, fresl, fres1, gt_iff_lt, ge_iff_le, reduceCtorEq, Nat.reduceAdd, Nat.reduceMul, Nat.reduceSub, Nat.reduceLT, Nat.reduceLeDiff, Nat.reduceEqDiff, Nat.reduceBEq, Nat.reduceBNe, Int.reduceLT, Int.reduceLE, Int.reduceEq, Int.reduceNe, Int.reduceAdd, Int.reduceSub, Int.reduceNeg, Int.reduceToNat, Int.reduceMul, ↓reduceIte, Int.reduceGT, Int.reduceGE, opC_one, opC_pt]
  refine callT_one (nlen_ok _) rfl ?_
  simp (disch := first | omega | (simp only [List.length_append, List.length_cons, List.length_nil, length_hset, length_hkill]; omega)) only [↓fsPre, fsPost, fsCond, fsGen, npick, nbin, nun, nconv, nnilCheck, noff, nidxArr, nidxSl, nfield, npart, nindex, nextract, nlenSl, nlenStr, ncap, mmx, minmax2, nslice, nsliceArr, nbounds, obound, bound, adv, nbits, eqVal, eqCell, eqCells, nfill, lenOfSl, cls, fresults, fresl, fres1, gt_iff_lt, ge_iff_le, reduceCtorEq, Nat.reduceAdd, Nat.reduceMul, Nat.reduceSub, Nat.reduceLT, Nat.reduceLeDiff, Nat.reduceEqDiff, Nat.reduceBEq, Nat.reduceBNe, Int.reduceLT, Int.reduceLE, Int.reduceEq, Int.reduceNe, Int.reduceAdd, Int.reduceSub, Int.reduceNeg, Int.reduceToNat, Int.reduceMul, ↓reduceIte, Int.reduceGT, Int.reduceGE, opC_one, opC_pt]
  refine callT_one (nall_ok _) rfl ?_
  simp (disch := first | omega | (simp only [List.length_append, List.length_cons, List.length_nil, length_hset, length_hkill]; omega)) only [↓fsPre, fsPost, fsCond, fsGen, npick, nbin, nun, nconv, nnilCheck, noff, nidxArr, nidxSl, nfield, npart, nindex, nextract, nlenSl, nlenStr, ncap, mmx, minmax2, nslice, nsliceArr, nbounds, obound, bound, adv, nbits, eqVal, eqCell, eqCells, nfill, lenOfSl, cls, fresults, fresl, fres1, gt_iff_lt, ge_iff_le, reduceCtorEq, Nat.reduceAdd, Nat.reduceMul, Nat.reduceSub, Nat.reduceLT, Nat.reduceLeDiff, Nat.reduceEqDiff, Nat.reduceBEq, Nat.reduceBNe, Int.reduceLT, Int.reduceLE, Int.reduceEq, Int.reduceNe, Int.reduceAdd, Int.reduceSub, Int.reduceNeg, Int.reduceToNat, Int.reduceMul, ↓reduceIte, Int.reduceGT, Int.reduceGE, opC_one, opC_pt]
  refine callT_one (xnew_ok _) rfl ?_
  simp (disch := first | omega | (simp only [List.length_append, List.length_cons, List.length_nil, length_hset, length_hkill]; omega)) only [↓fsPre, fsPost, fsCond, fsGen, npick, nbin, nun, nconv, nnilCheck, noff, nidxArr, nidxSl, nfield, npart, nindex, nextract, nlenSl, nlenStr, ncap, mmx, minmax2, nslice, nsliceArr, nbounds, obound, bound, adv, nbits, eqVal, eqCell, eqCells, nfill, lenOfSl, cls, fresults, fresl, fres1, gt_iff_lt, ge_iff_le, reduceCtorEq, Nat.reduceAdd, Nat.reduceMul, Nat.reduceSub, Nat.reduceLT, Nat.reduceLeDiff, Nat.reduceEqDiff, Nat.reduceBEq, Nat.reduceBNe, Int.reduceLT, Int.reduceLE, Int.reduceEq, Int.reduceNe, Int.reduceAdd, Int.reduceSub, Int.reduceNeg, Int.reduceToNat, Int.reduceMul, ↓reduceIte, Int.reduceGT, Int.reduceGE, opC_one, opC_pt, eN1, eA1]
  obtain ⟨G, hG⟩ : ∃ G : Heap, G = (H ++ [some (NBlk.cells (opC o) false)]) ++ [some (NBlk.map [] 0), some (NBlk.cells [NV.map (some (H ++ [some (NBlk.cells (opC o) false)]).length)] false)] := ⟨_, rfl⟩
  have hIx : IxAt G (H.length + 2) (H.length + 1) [] := by rw [hG]; exact ⟨by simp (disch := first | omega | (simp only [List.length_append, List.length_cons, List.length_nil, length_hset, length_hkill]; omega)) only [↓fsPre, fsPost, fsCond, fsGen, npick, nbin, nun, nconv, nnilCheck, noff, nidxArr, nidxSl, nfield, npart, nindex, nextract, nlenSl, nlenStr, ncap, mmx, minmax2, nslice, nsliceArr, nbounds, obound, bound, adv, nbits, eqVal, eqCell, eqCells, nfill, lenOfSl, cls, fresults, fresl, fres1, gt_iff_lt, ge_iff_le, reduceCtorEq, Nat.reduceAdd, Nat.reduceMul, Nat.reduceSub, Nat.reduceLT, Nat.reduceLeDiff, Nat.reduceEqDiff, Nat.reduceBEq, Nat.reduceBNe, Int.reduceLT, Int.reduceLE, Int.reduceEq, Int.reduceNe, Int.reduceAdd, Int.reduceSub, Int.reduceNeg, Int.reduceToNat, Int.reduceMul, ↓reduceIte, Int.reduceGT, Int.reduceGE], ⟨[], 0, by simp (disch := first | omega | (simp only [List.length_append, List.length_cons, List.length_nil, length_hset, length_hkill]; omega)) only [↓fsPre, fsPost, fsCond, fsGen, npick, nbin, nun, nconv, nnilCheck, noff, nidxArr, nidxSl, nfield, npart, nindex, nextract, nlenSl, nlenStr, ncap, mmx, minmax2, nslice, nsliceArr, nbounds, obound, bound, adv, nbits, eqVal, eqCell, eqCells, nfill, lenOfSl, cls, fresults, fresl, fres1, gt_iff_lt, ge_iff_le, reduceCtorEq, Nat.reduceAdd, Nat.reduceMul, Nat.reduceSub, Nat.reduceLT, Nat.reduceLeDiff, Nat.reduceEqDiff, Nat.reduceBEq, Nat.reduceBNe, Int.reduceLT, Int.reduceLE, Int.reduceEq, Int.reduceNe, Int.reduceAdd, Int.reduceSub, Int.reduceNeg, Int.reduceToNat, Int.reduceMul, ↓reduceIte, Int.reduceGT, Int.reduceGE], rfl, List.nodup_nil, by simp⟩, by omega⟩
  have hGl : G.length = H.length + 3 := by rw [hG]; simp
  have g1 : OIn (fun b => b < H.length) G A1 os := o1.keep (fun b hb _ => by rw [hG, List.append_assoc, hget_appl hb]) fun _ x => x
  rw [← hG]
  clear hG o1 eN1
  generalize H.length = m at *
  refine wloop (fun j F h => ∃ M : List (Pt × Int), F 51 = .slice A1 N1 (.fix m1) ∧ F 52 = .int .i64 N1 ∧ F 53 = .int .i64 j ∧ F 8 = .ptr (some (m + 2, 0)) ∧ M.length ≤ j ∧ G.length ≤ h.length ∧ (∀ b, b < G.length → b ≠ m + 1 → hget h b = hget G b) ∧
    IxAt h (m + 2) (m + 1) M ∧ (M.map (·.1)).Nodup) N1 ?_ ?_ ?_
  · refine ⟨[], ?_⟩
    simp (disch := first | omega | (simp only [List.length_append, List.length_cons, List.length_nil, length_hset, length_hkill]; omega)) only [↓fsPre, fsPost, fsCond, fsGen, npick, nbin, nun, nconv, nnilCheck, noff, nidxArr, nidxSl, nfield, npart, nindex, nextract, nlenSl, nlenStr, ncap, mmx, minmax2, nslice, nsliceArr, nbounds, obound, bound, adv, nbits, eqVal, eqCell, eqCells, nfill, lenOfSl, cls, fresults, fresl, fres1, gt_iff_lt, ge_iff_le, reduceCtorEq, Nat.reduceAdd, Nat.reduceMul, Nat.reduceSub, Nat.reduceLT, Nat.reduceLeDiff, Nat.reduceEqDiff, Nat.reduceBEq, Nat.reduceBNe, Int.reduceLT, Int.reduceLE, Int.reduceEq, Int.reduceNe, Int.reduceAdd, Int.reduceSub, Int.reduceNeg, Int.reduceToNat, Int.reduceMul, ↓reduceIte, Int.reduceGT, Int.reduceGE]
    exact ⟨hIx, List.nodup_nil⟩
  · rintro j F h hj ⟨M, f51, f52, f53, f8, hk, hl, hold, hI, hnd⟩
    obtain ⟨b, cs, ro, rfl, hbm, hb, hcut⟩ := g1 (by omega)
    have hbh : hget h b = some (.cells cs ro) := by rw [hold b (by omega) (by omega)]; exact hb
    have hbl := hget_some_lt hbh
    have hc := hcut j (by omega)
    simp (disch := first | omega | (simp only [List.length_append, List.length_cons, List.length_nil, length_hset, length_hkill]; omega)) only [↓fsPre, fsPost, fsCond, fsGen, npick, nbin, nun, nconv, nnilCheck, noff, nidxArr, nidxSl, nfield, npart, nindex, nextract, nlenSl, nlenStr, ncap, mmx, minmax2, nslice, nsliceArr, nbounds, obound, bound, adv, nbits, eqVal, eqCell, eqCells, nfill, lenOfSl, cls, fresults, fresl, fres1, gt_iff_lt, ge_iff_le, reduceCtorEq, Nat.reduceAdd, Nat.reduceMul, Nat.reduceSub, Nat.reduceLT, Nat.reduceLeDiff, Nat.reduceEqDiff, Nat.reduceBEq, Nat.reduceBNe, Int.reduceLT, Int.reduceLE, Int.reduceEq, Int.reduceNe, Int.reduceAdd, Int.reduceSub, Int.reduceNeg, Int.reduceToNat, Int.reduceMul, ↓reduceIte, Int.reduceGT, Int.reduceGE, f51, f52, f53, f8, hbh, hc, opC_one, opC_cut, opC_length, opC_fill, opC_id]
    refine callDT_one (point_ok _ _) rfl ?_
    simp (disch := first | omega | (simp only [List.length_append, List.length_cons, List.length_nil, length_hset, length_hkill]; omega)) only [↓fsPre, fsPost, fsCond, fsGen, npick, nbin, nun, nconv, nnilCheck, noff, nidxArr, nidxSl, nfield, npart, nindex, nextract, nlenSl, nlenStr, ncap, mmx, minmax2, nslice, nsliceArr, nbounds, obound, bound, adv, nbits, eqVal, eqCell, eqCells, nfill, lenOfSl, cls, fresults, fresl, fres1, gt_iff_lt, ge_iff_le, reduceCtorEq, Nat.reduceAdd, Nat.reduceMul, Nat.reduceSub, Nat.reduceLT, Nat.reduceLeDiff, Nat.reduceEqDiff, Nat.reduceBEq, Nat.reduceBNe, Int.reduceLT, Int.reduceLE, Int.reduceEq, Int.reduceNe, Int.reduceAdd, Int.reduceSub, Int.reduceNeg, Int.reduceToNat, Int.reduceMul, ↓reduceIte, Int.reduceGT, Int.reduceGE, f51, f52, f53, f8, hbh, hc, opC_one, opC_cut, opC_length, opC_fill, opC_id]
    have hI' := hI.mono (h := h ++ [some (.cells (opC os[j]) false)]) (hget_appl (hget_some_lt hI.hp)) (hget_appl hI.hm.lt)
    have lm := hI.hm.lt
    by_cases hin : os[j].point ∈ M.map (·.1)
    · refine callDT_one (xput_old _ _ _ _ hI' _ _ hin) rfl ?_
      simp (disch := first | omega | (simp only [List.length_append, List.length_cons, List.length_nil, length_hset, length_hkill]; omega)) only [↓fsPre, fsPost, fsCond, fsGen, npick, nbin, nun, nconv, nnilCheck, noff, nidxArr, nidxSl, nfield, npart, nindex, nextract, nlenSl, nlenStr, ncap, mmx, minmax2, nslice, nsliceArr, nbounds, obound, bound, adv, nbits, eqVal, eqCell, eqCells, nfill, lenOfSl, cls, fresults, fresl, fres1, gt_iff_lt, ge_iff_le, reduceCtorEq, Nat.reduceAdd, Nat.reduceMul, Nat.reduceSub, Nat.reduceLT, Nat.reduceLeDiff, Nat.reduceEqDiff, Nat.reduceBEq, Nat.reduceBNe, Int.reduceLT, Int.reduceLE, Int.reduceEq, Int.reduceNe, Int.reduceAdd, Int.reduceSub, Int.reduceNeg, Int.reduceToNat, Int.reduceMul, ↓reduceIte, Int.reduceGT, Int.reduceGE, f51, f52, f53, f8]
      refine ⟨rfl, M, ?_⟩
      exact ⟨by omega, by omega, fun c hc hne => by rw [hget_appl (by omega)]; exact hold c hc hne, hI', hnd⟩
    · refine callDT_D (xput_new _ _ _ _ hI' _ _ hin) rfl ?_
      rintro w h' ⟨hw, hl', ho', hI''⟩
      simp only at hw hl' ho' hI''
      subst hw
      rw [List.length_append, List.length_cons, List.length_nil] at hl' ho'
      have hx : hget h' h.length = some (.cells (opC os[j]) false) := by rw [ho' _ (by omega) (by omega)]; exact hget_append_new
      have lx := hget_some_lt hx
      simp (disch := first | omega | (simp only [List.length_append, List.length_cons, List.length_nil, length_hset, length_hkill]; omega)) only [↓fsPre, fsPost, fsCond, fsGen, npick, nbin, nun, nconv, nnilCheck, noff, nidxArr, nidxSl, nfield, npart, nindex, nextract, nlenSl, nlenStr, ncap, mmx, minmax2, nslice, nsliceArr, nbounds, obound, bound, adv, nbits, eqVal, eqCell, eqCells, nfill, lenOfSl, cls, fresults, fresl, fres1, gt_iff_lt, ge_iff_le, reduceCtorEq, Nat.reduceAdd, Nat.reduceMul, Nat.reduceSub, Nat.reduceLT, Nat.reduceLeDiff, Nat.reduceEqDiff, Nat.reduceBEq, Nat.reduceBNe, Int.reduceLT, Int.reduceLE, Int.reduceEq, Int.reduceNe, Int.reduceAdd, Int.reduceSub, Int.reduceNeg, Int.reduceToNat, Int.reduceMul, ↓reduceIte, Int.reduceGT, Int.reduceGE, f51, f52, f53, f8, hx, opC_one, opC_cut, opC_length, opC_fill, opC_id]
      refine ⟨by omega, M ++ [(os[j].point, os[j].id)], ?_⟩
      simp (disch := first | omega | (simp only [List.length_append, List.length_cons, List.length_nil, length_hset, length_hkill]; omega)) only [↓fsPre, fsPost, fsCond, fsGen, npick, nbin, nun, nconv, nnilCheck, noff, nidxArr, nidxSl, nfield, npart, nindex, nextract, nlenSl, nlenStr, ncap, mmx, minmax2, nslice, nsliceArr, nbounds, obound, bound, adv, nbits, eqVal, eqCell, eqCells, nfill, lenOfSl, cls, fresults, fresl, fres1, gt_iff_lt, ge_iff_le, reduceCtorEq, Nat.reduceAdd, Nat.reduceMul, Nat.reduceSub, Nat.reduceLT, Nat.reduceLeDiff, Nat.reduceEqDiff, Nat.reduceBEq, Nat.reduceBNe, Int.reduceLT, Int.reduceLE, Int.reduceEq, Int.reduceNe, Int.reduceAdd, Int.reduceSub, Int.reduceNeg, Int.reduceToNat, Int.reduceMul, ↓reduceIte, Int.reduceGT, Int.reduceGE, f51, f52, f53, f8]
      refine ⟨by omega, by omega, fun c hc hne => ?_, hI'', ?_⟩
      · rw [ho' c (by omega) hne, hget_appl (by omega)]; exact hold c hc hne
      · rw [List.map_append, List.nodup_append]
        refine ⟨hnd, by simp, fun a ha b hb e => hin ?_⟩
        simp only [List.map_cons, List.map_nil, List.mem_singleton] at hb
        subst hb e
        exact ha
  · rintro F h ⟨M, f51, f52, f53, f8, hk, hl, hold, hI, hnd⟩
    obtain ⟨L, hL1, hL2⟩ := sorted_ex M hnd
    have hLl : L.length = M.length := hL2.length_eq
    simp (disch := first | omega | (simp only [List.length_append, List.length_cons, List.length_nil, length_hset, length_hkill]; omega)) only [↓fsPre, fsPost, fsCond, fsGen, npick, nbin, nun, nconv, nnilCheck, noff, nidxArr, nidxSl, nfield, npart, nindex, nextract, nlenSl, nlenStr, ncap, mmx, minmax2, nslice, nsliceArr, nbounds, obound, bound, adv, nbits, eqVal, eqCell, eqCells, nfill, lenOfSl, cls, fresults, fresl, fres1, gt_iff_lt, ge_iff_le, reduceCtorEq, Nat.reduceAdd, Nat.reduceMul, Nat.reduceSub, Nat.reduceLT, Nat.reduceLeDiff, Nat.reduceEqDiff, Nat.reduceBEq, Nat.reduceBNe, Int.reduceLT, Int.reduceLE, Int.reduceEq, Int.reduceNe, Int.reduceAdd, Int.reduceSub, Int.reduceNeg, Int.reduceToNat, Int.reduceMul, ↓reduceIte, Int.reduceGT, Int.reduceGE, f51, f52, f53, f8]
    by_cases h0 : M = []
    · subst h0
      refine callT_one (xall_nil _ _ _ hI) rfl ?_
      simp (disch := first | omega | (simp only [List.length_append, List.length_cons, List.length_nil, length_hset, length_hkill]; omega)) only [↓fsPre, fsPost, fsCond, fsGen, npick, nbin, nun, nconv, nnilCheck, noff, nidxArr, nidxSl, nfield, npart, nindex, nextract, nlenSl, nlenStr, ncap, mmx, minmax2, nslice, nsliceArr, nbounds, obound, bound, adv, nbits, eqVal, eqCell, eqCells, nfill, lenOfSl, cls, fresults, fresl, fres1, gt_iff_lt, ge_iff_le, reduceCtorEq, Nat.reduceAdd, Nat.reduceMul, Nat.reduceSub, Nat.reduceLT, Nat.reduceLeDiff, Nat.reduceEqDiff, Nat.reduceBEq, Nat.reduceBNe, Int.reduceLT, Int.reduceLE, Int.reduceEq, Int.reduceNe, Int.reduceAdd, Int.reduceSub, Int.reduceNeg, Int.reduceToNat, Int.reduceMul, ↓reduceIte, Int.reduceGT, Int.reduceGE, f8]
      refine wloop (fun j F g => g = h ∧ F 8 = .ptr (some (m + 2, 0)) ∧ F 11 = .slice none 0 (.fix 0) ∧ F 67 = .int .i64 0 ∧ F 68 = .int .i64 0) 0 ?_ ?_ ?_
      · simp (disch := first | omega | (simp only [List.length_append, List.length_cons, List.length_nil, length_hset, length_hkill]; omega)) only [↓fsPre, fsPost, fsCond, fsGen, npick, nbin, nun, nconv, nnilCheck, noff, nidxArr, nidxSl, nfield, npart, nindex, nextract, nlenSl, nlenStr, ncap, mmx, minmax2, nslice, nsliceArr, nbounds, obound, bound, adv, nbits, eqVal, eqCell, eqCells, nfill, lenOfSl, cls, fresults, fresl, fres1, gt_iff_lt, ge_iff_le, reduceCtorEq, Nat.reduceAdd, Nat.reduceMul, Nat.reduceSub, Nat.reduceLT, Nat.reduceLeDiff, Nat.reduceEqDiff, Nat.reduceBEq, Nat.reduceBNe, Int.reduceLT, Int.reduceLE, Int.reduceEq, Int.reduceNe, Int.reduceAdd, Int.reduceSub, Int.reduceNeg, Int.reduceToNat, Int.reduceMul, ↓reduceIte, Int.reduceGT, Int.reduceGE, f8]
      · intro j F h hj; omega
      · clear f51 f52 f53 f8 F
        rintro F h' ⟨rfl, f8, f11, f67, f68⟩
        simp (disch := first | omega | (simp only [List.length_append, List.length_cons, List.length_nil, length_hset, length_hkill]; omega)) only [↓fsPre, fsPost, fsCond, fsGen, npick, nbin, nun, nconv, nnilCheck, noff, nidxArr, nidxSl, nfield, npart, nindex, nextract, nlenSl, nlenStr, ncap, mmx, minmax2, nslice, nsliceArr, nbounds, obound, bound, adv, nbits, eqVal, eqCell, eqCells, nfill, lenOfSl, cls, fresults, fresl, fres1, gt_iff_lt, ge_iff_le, reduceCtorEq, Nat.reduceAdd, Nat.reduceMul, Nat.reduceSub, Nat.reduceLT, Nat.reduceLeDiff, Nat.reduceEqDiff, Nat.reduceBEq, Nat.reduceBNe, Int.reduceLT, Int.reduceLE, Int.reduceEq, Int.reduceNe, Int.reduceAdd, Int.reduceSub, Int.reduceNeg, Int.reduceToNat, Int.reduceMul, ↓reduceIte, Int.reduceGT, Int.reduceGE, f8, f11, f67, f68]
        refine callT_one (xall_nil _ _ _ hI) rfl ?_
        simp (disch := first | omega | (simp only [List.length_append, List.length_cons, List.length_nil, length_hset, length_hkill]; omega)) only [↓fsPre, fsPost, fsCond, fsGen, npick, nbin, nun, nconv, nnilCheck, noff, nidxArr, nidxSl, nfield, npart, nindex, nextract, nlenSl, nlenStr, ncap, mmx, minmax2, nslice, nsliceArr, nbounds, obound, bound, adv, nbits, eqVal, eqCell, eqCells, nfill, lenOfSl, cls, fresults, fresl, fres1, gt_iff_lt, ge_iff_le, reduceCtorEq, Nat.reduceAdd, Nat.reduceMul, Nat.reduceSub, Nat.reduceLT, Nat.reduceLeDiff, Nat.reduceEqDiff, Nat.reduceBEq, Nat.reduceBNe, Int.reduceLT, Int.reduceLE, Int.reduceEq, Int.reduceNe, Int.reduceAdd, Int.reduceSub, Int.reduceNeg, Int.reduceToNat, Int.reduceMul, ↓reduceIte, Int.reduceGT, Int.reduceGE, f8, f11, f67, f68]
        refine wloop (fun j F h => F 88 = .int .i64 0 ∧ F 89 = .int .i64 0) 0 ?_ ?_ ?_
        · simp (disch := first | omega | (simp only [List.length_append, List.length_cons, List.length_nil, length_hset, length_hkill]; omega)) only [↓fsPre, fsPost, fsCond, fsGen, npick, nbin, nun, nconv, nnilCheck, noff, nidxArr, nidxSl, nfield, npart, nindex, nextract, nlenSl, nlenStr, ncap, mmx, minmax2, nslice, nsliceArr, nbounds, obound, bound, adv, nbits, eqVal, eqCell, eqCells, nfill, lenOfSl, cls, fresults, fresl, fres1, gt_iff_lt, ge_iff_le, reduceCtorEq, Nat.reduceAdd, Nat.reduceMul, Nat.reduceSub, Nat.reduceLT, Nat.reduceLeDiff, Nat.reduceEqDiff, Nat.reduceBEq, Nat.reduceBNe, Int.reduceLT, Int.reduceLE, Int.reduceEq, Int.reduceNe, Int.reduceAdd, Int.reduceSub, Int.reduceNeg, Int.reduceToNat, Int.reduceMul, ↓reduceIte, Int.reduceGT, Int.reduceGE]
        · intro j F h hj; omega
        · rintro F h ⟨f114, f115⟩
          simp (disch := first | omega | (simp only [List.length_append, List.length_cons, List.length_nil, length_hset, length_hkill]; omega)) only [↓fsPre, fsPost, fsCond, fsGen, npick, nbin, nun, nconv, nnilCheck, noff, nidxArr, nidxSl, nfield, npart, nindex, nextract, nlenSl, nlenStr, ncap, mmx, minmax2, nslice, nsliceArr, nbounds, obound, bound, adv, nbits, eqVal, eqCell, eqCells, nfill, lenOfSl, cls, fresults, fresl, fres1, gt_iff_lt, ge_iff_le, reduceCtorEq, Nat.reduceAdd, Nat.reduceMul, Nat.reduceSub, Nat.reduceLT, Nat.reduceLeDiff, Nat.reduceEqDiff, Nat.reduceBEq, Nat.reduceBNe, Int.reduceLT, Int.reduceLE, Int.reduceEq, Int.reduceNe, Int.reduceAdd, Int.reduceSub, Int.reduceNeg, Int.reduceToNat, Int.reduceMul, ↓reduceIte, Int.reduceGT, Int.reduceGE, f114, f115]
          refine callT_one (begun11_ok _) rfl ?_
          simp (disch := first | omega | (simp only [List.length_append, List.length_cons, List.length_nil, length_hset, length_hkill]; omega)) only [↓fsPre, fsPost, fsCond, fsGen, npick, nbin, nun, nconv, nnilCheck, noff, nidxArr, nidxSl, nfield, npart, nindex, nextract, nlenSl, nlenStr, ncap, mmx, minmax2, nslice, nsliceArr, nbounds, obound, bound, adv, nbits, eqVal, eqCell, eqCells, nfill, lenOfSl, cls, fresults, fresl, fres1, gt_iff_lt, ge_iff_le, reduceCtorEq, Nat.reduceAdd, Nat.reduceMul, Nat.reduceSub, Nat.reduceLT, Nat.reduceLeDiff, Nat.reduceEqDiff, Nat.reduceBEq, Nat.reduceBNe, Int.reduceLT, Int.reduceLE, Int.reduceEq, Int.reduceNe, Int.reduceAdd, Int.reduceSub, Int.reduceNeg, Int.reduceToNat, Int.reduceMul, ↓reduceIte, Int.reduceGT, Int.reduceGE]
    · have lk0 : M.length ≠ 0 := by simpa using h0
      refine callT_one (xall_ok _ _ _ _ L hI hL1 hL2 (by omega) h0) rfl ?_
      simp (disch := first | omega | (simp only [List.length_append, List.length_cons, List.length_nil, length_hset, length_hkill]; omega)) only [↓fsPre, fsPost, fsCond, fsGen, npick, nbin, nun, nconv, nnilCheck, noff, nidxArr, nidxSl, nfield, npart, nindex, nextract, nlenSl, nlenStr, ncap, mmx, minmax2, nslice, nsliceArr, nbounds, obound, bound, adv, nbits, eqVal, eqCell, eqCells, nfill, lenOfSl, cls, fresults, fresl, fres1, gt_iff_lt, ge_iff_le, reduceCtorEq, Nat.reduceAdd, Nat.reduceMul, Nat.reduceSub, Nat.reduceLT, Nat.reduceLeDiff, Nat.reduceEqDiff, Nat.reduceBEq, Nat.reduceBNe, Int.reduceLT, Int.reduceLE, Int.reduceEq, Int.reduceNe, Int.reduceAdd, Int.reduceSub, Int.reduceNeg, Int.reduceToNat, Int.reduceMul, ↓reduceIte, Int.reduceGT, Int.reduceGE, f8]
      have lp := hget_some_lt hI.hp
      have lm := hI.hm.lt
      refine wloop (fun j F g => F 8 = .ptr (some (m + 2, 0)) ∧ F 11 = .slice (some (h.length, 0)) L.length (.opn 9) ∧ F 67 = .int .i64 L.length ∧ F 68 = .int .i64 j ∧ IxAt g (m + 2) (m + 1) M ∧ h.length + 1 ≤ g.length ∧ ∃ cs, hget g h.length = some (.cells cs false) ∧ cs.length = L.length * 9 ∧ ∀ i (hi : i < L.length), cs[i * 9 + 8]? = some (.int .i64 (if i < j then IntKind.i64.wrap (L[i].2 + 1) else L[i].2))) L.length ?_ ?_ ?_
      · simp (disch := first | omega | (simp only [List.length_append, List.length_cons, List.length_nil, length_hset, length_hkill]; omega)) only [↓fsPre, fsPost, fsCond, fsGen, npick, nbin, nun, nconv, nnilCheck, noff, nidxArr, nidxSl, nfield, npart, nindex, nextract, nlenSl, nlenStr, ncap, mmx, minmax2, nslice, nsliceArr, nbounds, obound, bound, adv, nbits, eqVal, eqCell, eqCells, nfill, lenOfSl, cls, fresults, fresl, fres1, gt_iff_lt, ge_iff_le, reduceCtorEq, Nat.reduceAdd, Nat.reduceMul, Nat.reduceSub, Nat.reduceLT, Nat.reduceLeDiff, Nat.reduceEqDiff, Nat.reduceBEq, Nat.reduceBNe, Int.reduceLT, Int.reduceLE, Int.reduceEq, Int.reduceNe, Int.reduceAdd, Int.reduceSub, Int.reduceNeg, Int.reduceToNat, Int.reduceMul, ↓reduceIte, Int.reduceGT, Int.reduceGE, f8]
        refine ⟨hI.mono (hget_appl lp) (hget_appl lm), _, rfl, prs_length L, fun i hi => ?_⟩
        rw [cut_get (cut_flatMap prC_length hi) (by omega)]
        simp [prC_id]
      · clear f51 f52 f53 f8 F
        rintro j F g hj ⟨f8, f11, f67, f68, hIg, hlg, cs, hb, hcl, hcs⟩
        have hcj := hcs j hj
        rw [if_neg (by omega)] at hcj
        have hbl := hget_some_lt hb
        have lp' := hI.hp
        simp (disch := first | omega | (simp only [List.length_append, List.length_cons, List.length_nil, length_hset, length_hkill]; omega)) only [↓fsPre, fsPost, fsCond, fsGen, npick, nbin, nun, nconv, nnilCheck, noff, nidxArr, nidxSl, nfield, npart, nindex, nextract, nlenSl, nlenStr, ncap, mmx, minmax2, nslice, nsliceArr, nbounds, obound, bound, adv, nbits, eqVal, eqCell, eqCells, nfill, lenOfSl, cls, fresults, fresl, fres1, gt_iff_lt, ge_iff_le, reduceCtorEq, Nat.reduceAdd, Nat.reduceMul, Nat.reduceSub, Nat.reduceLT, Nat.reduceLeDiff, Nat.reduceEqDiff, Nat.reduceBEq, Nat.reduceBNe, Int.reduceLT, Int.reduceLE, Int.reduceEq, Int.reduceNe, Int.reduceAdd, Int.reduceSub, Int.reduceNeg, Int.reduceToNat, Int.reduceMul, ↓reduceIte, Int.reduceGT, Int.reduceGE, f8, f11, f67, f68, hb, hcj]
        have hjb : j * 9 + 8 < cs.length := by rw [hcl]; omega
        refine ⟨hIg.mono (hget_hset_ne (by omega)) (hget_hset_ne (by omega)), by omega, _, rfl, ?_, fun i hi => ?_⟩
        · rw [splice_one hjb, List.length_set]; exact hcl
        · rw [splice_one hjb, List.getElem?_set]
          by_cases hij : i = j
          · subst hij
            rw [if_pos rfl, if_pos hjb, if_pos (by omega)]
          · rw [if_neg (by omega), hcs i hi]
            by_cases h1 : i < j
            · rw [if_pos h1, if_pos (by omega)]
            · rw [if_neg h1, if_neg (by omega)]
      · clear f51 f52 f53 f8 F
        rintro F g ⟨f8, f11, f67, f68, hIg, hlg, cs, hb, hcl, hcs⟩
        have hbl := hget_some_lt hb
        simp (disch := first | omega | (simp only [List.length_append, List.length_cons, List.length_nil, length_hset, length_hkill]; omega)) only [↓fsPre, fsPost, fsCond, fsGen, npick, nbin, nun, nconv, nnilCheck, noff, nidxArr, nidxSl, nfield, npart, nindex, nextract, nlenSl, nlenStr, ncap, mmx, minmax2, nslice, nsliceArr, nbounds, obound, bound, adv, nbits, eqVal, eqCell, eqCells, nfill, lenOfSl, cls, fresults, fresl, fres1, gt_iff_lt, ge_iff_le, reduceCtorEq, Nat.reduceAdd, Nat.reduceMul, Nat.reduceSub, Nat.reduceLT, Nat.reduceLeDiff, Nat.reduceEqDiff, Nat.reduceBEq, Nat.reduceBNe, Int.reduceLT, Int.reduceLE, Int.reduceEq, Int.reduceNe, Int.reduceAdd, Int.reduceSub, Int.reduceNeg, Int.reduceToNat, Int.reduceMul, ↓reduceIte, Int.reduceGT, Int.reduceGE, f8, f11, f67, f68]
        refine callT_one (xall_ok _ _ _ _ L hIg hL1 hL2 (by omega) h0) rfl ?_
        simp (disch := first | omega | (simp only [List.length_append, List.length_cons, List.length_nil, length_hset, length_hkill]; omega)) only [↓fsPre, fsPost, fsCond, fsGen, npick, nbin, nun, nconv, nnilCheck, noff, nidxArr, nidxSl, nfield, npart, nindex, nextract, nlenSl, nlenStr, ncap, mmx, minmax2, nslice, nsliceArr, nbounds, obound, bound, adv, nbits, eqVal, eqCell, eqCells, nfill, lenOfSl, cls, fresults, fresl, fres1, gt_iff_lt, ge_iff_le, reduceCtorEq, Nat.reduceAdd, Nat.reduceMul, Nat.reduceSub, Nat.reduceLT, Nat.reduceLeDiff, Nat.reduceEqDiff, Nat.reduceBEq, Nat.reduceBNe, Int.reduceLT, Int.reduceLE, Int.reduceEq, Int.reduceNe, Int.reduceAdd, Int.reduceSub, Int.reduceNeg, Int.reduceToNat, Int.reduceMul, ↓reduceIte, Int.reduceGT, Int.reduceGE, f8, f11, f67, f68]
        refine wloop (fun j F g' => F 11 = .slice (some (h.length, 0)) L.length (.opn 9) ∧ F 13 = .slice (some (g.length, 0)) L.length (.opn 9) ∧ F 88 = .int .i64 L.length ∧ F 89 = .int .i64 j ∧ hget g' h.length = some (.cells cs false) ∧ hget g' g.length = some (.cells (L.flatMap prC) false)) L.length ?_ ?_ ?_
        · simp (disch := first | omega | (simp only [List.length_append, List.length_cons, List.length_nil, length_hset, length_hkill]; omega)) only [↓fsPre, fsPost, fsCond, fsGen, npick, nbin, nun, nconv, nnilCheck, noff, nidxArr, nidxSl, nfield, npart, nindex, nextract, nlenSl, nlenStr, ncap, mmx, minmax2, nslice, nsliceArr, nbounds, obound, bound, adv, nbits, eqVal, eqCell, eqCells, nfill, lenOfSl, cls, fresults, fresl, fres1, gt_iff_lt, ge_iff_le, reduceCtorEq, Nat.reduceAdd, Nat.reduceMul, Nat.reduceSub, Nat.reduceLT, Nat.reduceLeDiff, Nat.reduceEqDiff, Nat.reduceBEq, Nat.reduceBNe, Int.reduceLT, Int.reduceLE, Int.reduceEq, Int.reduceNe, Int.reduceAdd, Int.reduceSub, Int.reduceNeg, Int.reduceToNat, Int.reduceMul, ↓reduceIte, Int.reduceGT, Int.reduceGE, f8, f11, f67, f68, hb]
        · rintro j F g' hj ⟨f11, f13, f88, f89, hb1, hb2⟩
          have hc1 := hcs j hj
          rw [if_pos hj] at hc1
          have hc2 : (L.flatMap prC)[j * 9 + 8]? = some (.int .i64 L[j].2) := by rw [cut_get (cut_flatMap prC_length hj) (by omega)]; rfl
          simp (disch := first | omega | (simp only [List.length_append, List.length_cons, List.length_nil, length_hset, length_hkill]; omega)) only [↓fsPre, fsPost, fsCond, fsGen, npick, nbin, nun, nconv, nnilCheck, noff, nidxArr, nidxSl, nfield, npart, nindex, nextract, nlenSl, nlenStr, ncap, mmx, minmax2, nslice, nsliceArr, nbounds, obound, bound, adv, nbits, eqVal, eqCell, eqCells, nfill, lenOfSl, cls, fresults, fresl, fres1, gt_iff_lt, ge_iff_le, reduceCtorEq, Nat.reduceAdd, Nat.reduceMul, Nat.reduceSub, Nat.reduceLT, Nat.reduceLeDiff, Nat.reduceEqDiff, Nat.reduceBEq, Nat.reduceBNe, Int.reduceLT, Int.reduceLE, Int.reduceEq, Int.reduceNe, Int.reduceAdd, Int.reduceSub, Int.reduceNeg, Int.reduceToNat, Int.reduceMul, ↓reduceIte, Int.reduceGT, Int.reduceGE, f11, f13, f88, f89, hb1, hb2, hc1, hc2]
        · rintro F g' ⟨f11, f13, f88, f89, hb1, hb2⟩
          simp (disch := first | omega | (simp only [List.length_append, List.length_cons, List.length_nil, length_hset, length_hkill]; omega)) only [↓fsPre, fsPost, fsCond, fsGen, npick, nbin, nun, nconv, nnilCheck, noff, nidxArr, nidxSl, nfield, npart, nindex, nextract, nlenSl, nlenStr, ncap, mmx, minmax2, nslice, nsliceArr, nbounds, obound, bound, adv, nbits, eqVal, eqCell, eqCells, nfill, lenOfSl, cls, fresults, fresl, fres1, gt_iff_lt, ge_iff_le, reduceCtorEq, Nat.reduceAdd, Nat.reduceMul, Nat.reduceSub, Nat.reduceLT, Nat.reduceLeDiff, Nat.reduceEqDiff, Nat.reduceBEq, Nat.reduceBNe, Int.reduceLT, Int.reduceLE, Int.reduceEq, Int.reduceNe, Int.reduceAdd, Int.reduceSub, Int.reduceNeg, Int.reduceToNat, Int.reduceMul, ↓reduceIte, Int.reduceGT, Int.reduceGE, f11, f13, f88, f89]
          refine callT_one (begun11_ok _) rfl ?_
          simp (disch := first | omega | (simp only [List.length_append, List.length_cons, List.length_nil, length_hset, length_hkill]; omega)) only [↓fsPre, fsPost, fsCond, fsGen, npick, nbin, nun, nconv, nnilCheck, noff, nidxArr, nidxSl, nfield, npart, nindex, nextract, nlenSl, nlenStr, ncap, mmx, minmax2, nslice, nsliceArr, nbounds, obound, bound, adv, nbits, eqVal, eqCell, eqCells, nfill, lenOfSl, cls, fresults, fresl, fres1, gt_iff_lt, ge_iff_le, reduceCtorEq, Nat.reduceAdd, Nat.reduceMul, Nat.reduceSub, Nat.reduceLT, Nat.reduceLeDiff, Nat.reduceEqDiff, Nat.reduceBEq, Nat.reduceBNe, Int.reduceLT, Int.reduceLE, Int.reduceEq, Int.reduceNe, Int.reduceAdd, Int.reduceSub, Int.reduceNeg, Int.reduceToNat, Int.reduceMul, ↓reduceIte, Int.reduceGT, Int.reduceGE]

theorem argOK_op {b : Nat} {v : NV} {x : Option NBlk} (h : argOK (.flat kOp true) b v x) : ∃ o : XOp, v = .agg (opC o) ∧ x = none := by
  obtain ⟨h1, h2⟩ := h
  simp only [isFlatV, if_true] at h1
  obtain ⟨cs, rfl, h3⟩ := h1
  obtain ⟨o, _, ho⟩ := op_row h3
  exact ⟨o, by rw [ho], h2⟩
def kindsEN : List PK := [.flat kOp true, .sl kOp]
theorem walkEN (nvs : List NV) (h : Heap) (ok : argsOK kindsEN 0 nvs h) : NFun Try.prog 5 nvs h (fun q => q.1 = .bool true) := by
  obtain ⟨v, vs, x, h, rfl, rfl, h1, ok⟩ := argsOK_cons ok
  obtain ⟨w, vs, y, h, rfl, rfl, h2, ok⟩ := argsOK_cons ok
  obtain ⟨rfl, rfl⟩ := argsOK_nil ok
  obtain ⟨o, rfl, rfl⟩ := argOK_op h1
  obtain ⟨ys, hy⟩ := argOK_ops (H := [none, y]) h2 rfl
  exact none_ok _ o _ ys hy
end Go.Proofs
