/- Exact: the document's index. -/
import Derived.Test.YtfeanpgfjakbbaaECXe
set_option linter.unusedSimpArgs false
set_option linter.unusedVariables false
set_option maxRecDepth 100000
namespace Go.Proofs
open Go.Ns

theorem ptC_at (p : Pt) {j : Nat} (hj : j < 4) : cut (ptC p) (j * 2) 2 = some [nb (hiOf (pv p j)), nb (loOf (pv p j))] := by
  match j, hj with
  | 0, _ => rfl
  | 1, _ => rfl
  | 2, _ => rfl
  | 3, _ => rfl
theorem rcompare_ok (H : Heap) (p q : Pt) : NCall Try.prog 25 [.agg (ptC p), .agg (ptC q)] H fun r => r = (.int .i64 (cmpP p q), H) := by
  refine call_pure E0 mixed t25_ok (by kernel_rfl) trivial ?_
  have hc := fun H a b => rcmp_ok H a b
  simp only [t25, vnv] at hc ⊢
  simp (disch := first | omega | (simp only [List.length_append, List.length_cons, List.length_nil, length_hset, length_hkill]; omega)) only [↓fsPre, fsPost, fsCond, fsGen, npick, nbin, nun, nconv, nnilCheck, noff, nidxArr, nidxSl, nfield, npart, nindex, nextract, nlenSl, nlenStr, ncap, mmx, minmax2, nslice, nsliceArr, nbounds, obound, bound, adv, nbits, eqVal, eqCell, eqCells, nfill, lenOfSl, cls, fresults, fresl, fres1, gt_iff_lt, ge_iff_le, reduceCtorEq, Nat.reduceAdd, Nat.reduceMul, Nat.reduceSub, Nat.reduceLT, Nat.reduceLeDiff, Nat.reduceEqDiff, Nat.reduceBEq, Nat.reduceBNe, Int.reduceLT, Int.reduceLE, Int.reduceEq, Int.reduceNe, Int.reduceAdd, Int.reduceSub, Int.reduceNeg, Int.reduceToNat, Int.reduceMul, ↓reduceIte, Int.reduceGT, Int.reduceGE, ptC_one]
  refine wloop (fun j F h => F 2 = .ptr (some (H.length, 0)) ∧ F 3 = .ptr (some (H.length + 1, 0)) ∧ F 7 = .int .i64 j ∧ (∀ i, i < j → pv p i = pv q i) ∧ h = H ++ [some (.cells (ptC p) false), some (.cells (ptC q) false)]) 4 ?_ ?_ ?_
  · simp (disch := first | omega | (simp only [List.length_append, List.length_cons, List.length_nil, length_hset, length_hkill]; omega)) only [↓fsPre, fsPost, fsCond, fsGen, npick, nbin, nun, nconv, nnilCheck, noff, nidxArr, nidxSl, nfield, npart, nindex, nextract, nlenSl, nlenStr, ncap, mmx, minmax2, nslice, nsliceArr, nbounds, obound, bound, adv, nbits, eqVal, eqCell, eqCells, nfill, lenOfSl, cls, fresults, fresl, fres1, gt_iff_lt, ge_iff_le, reduceCtorEq, Nat.reduceAdd, Nat.reduceMul, Nat.reduceSub, Nat.reduceLT, Nat.reduceLeDiff, Nat.reduceEqDiff, Nat.reduceBEq, Nat.reduceBNe, Int.reduceLT, Int.reduceLE, Int.reduceEq, Int.reduceNe, Int.reduceAdd, Int.reduceSub, Int.reduceNeg, Int.reduceToNat, Int.reduceMul, ↓reduceIte, Int.reduceGT, Int.reduceGE]
    intro i hi; omega
  · rintro j F h hj ⟨f2, f3, f7, he, rfl⟩
    have c1 := ptC_at p hj
    have c2 := ptC_at q hj
    simp (disch := first | omega | (simp only [List.length_append, List.length_cons, List.length_nil, length_hset, length_hkill]; omega)) only [↓fsPre, fsPost, fsCond, fsGen, npick, nbin, nun, nconv, nnilCheck, noff, nidxArr, nidxSl, nfield, npart, nindex, nextract, nlenSl, nlenStr, ncap, mmx, minmax2, nslice, nsliceArr, nbounds, obound, bound, adv, nbits, eqVal, eqCell, eqCells, nfill, lenOfSl, cls, fresults, fresl, fres1, gt_iff_lt, ge_iff_le, reduceCtorEq, Nat.reduceAdd, Nat.reduceMul, Nat.reduceSub, Nat.reduceLT, Nat.reduceLeDiff, Nat.reduceEqDiff, Nat.reduceBEq, Nat.reduceBNe, Int.reduceLT, Int.reduceLE, Int.reduceEq, Int.reduceNe, Int.reduceAdd, Int.reduceSub, Int.reduceNeg, Int.reduceToNat, Int.reduceMul, ↓reduceIte, Int.reduceGT, Int.reduceGE, f2, f3, f7, c1, c2, nb_one, nb_flat]
    refine callDT_one (hc _ _ _) rfl ?_
    simp (disch := first | omega | (simp only [List.length_append, List.length_cons, List.length_nil, length_hset, length_hkill]; omega)) only [↓fsPre, fsPost, fsCond, fsGen, npick, nbin, nun, nconv, nnilCheck, noff, nidxArr, nidxSl, nfield, npart, nindex, nextract, nlenSl, nlenStr, ncap, mmx, minmax2, nslice, nsliceArr, nbounds, obound, bound, adv, nbits, eqVal, eqCell, eqCells, nfill, lenOfSl, cls, fresults, fresl, fres1, gt_iff_lt, ge_iff_le, reduceCtorEq, Nat.reduceAdd, Nat.reduceMul, Nat.reduceSub, Nat.reduceLT, Nat.reduceLeDiff, Nat.reduceEqDiff, Nat.reduceBEq, Nat.reduceBNe, Int.reduceLT, Int.reduceLE, Int.reduceEq, Int.reduceNe, Int.reduceAdd, Int.reduceSub, Int.reduceNeg, Int.reduceToNat, Int.reduceMul, ↓reduceIte, Int.reduceGT, Int.reduceGE, f2, f3, f7]
    refine condK_dec (fun hne => ?_) (fun hne => ?_)
    · have hx : pv p j ≠ pv q j := fun e => by simp [cmpV_zero.2 e] at hne
      simp (disch := first | omega | (simp only [List.length_append, List.length_cons, List.length_nil, length_hset, length_hkill]; omega)) only [↓fsPre, fsPost, fsCond, fsGen, npick, nbin, nun, nconv, nnilCheck, noff, nidxArr, nidxSl, nfield, npart, nindex, nextract, nlenSl, nlenStr, ncap, mmx, minmax2, nslice, nsliceArr, nbounds, obound, bound, adv, nbits, eqVal, eqCell, eqCells, nfill, lenOfSl, cls, fresults, fresl, fres1, gt_iff_lt, ge_iff_le, reduceCtorEq, Nat.reduceAdd, Nat.reduceMul, Nat.reduceSub, Nat.reduceLT, Nat.reduceLeDiff, Nat.reduceEqDiff, Nat.reduceBEq, Nat.reduceBNe, Int.reduceLT, Int.reduceLE, Int.reduceEq, Int.reduceNe, Int.reduceAdd, Int.reduceSub, Int.reduceNeg, Int.reduceToNat, Int.reduceMul, ↓reduceIte, Int.reduceGT, Int.reduceGE]
      exact ⟨by rw [cmpP_at hj he hx], _, rfl⟩
    · have hx : pv p j = pv q j := by
        rw [← cmpV_zero]; simpa using hne
      simp (disch := first | omega | (simp only [List.length_append, List.length_cons, List.length_nil, length_hset, length_hkill]; omega)) only [↓fsPre, fsPost, fsCond, fsGen, npick, nbin, nun, nconv, nnilCheck, noff, nidxArr, nidxSl, nfield, npart, nindex, nextract, nlenSl, nlenStr, ncap, mmx, minmax2, nslice, nsliceArr, nbounds, obound, bound, adv, nbits, eqVal, eqCell, eqCells, nfill, lenOfSl, cls, fresults, fresl, fres1, gt_iff_lt, ge_iff_le, reduceCtorEq, Nat.reduceAdd, Nat.reduceMul, Nat.reduceSub, Nat.reduceLT, Nat.reduceLeDiff, Nat.reduceEqDiff, Nat.reduceBEq, Nat.reduceBNe, Int.reduceLT, Int.reduceLE, Int.reduceEq, Int.reduceNe, Int.reduceAdd, Int.reduceSub, Int.reduceNeg, Int.reduceToNat, Int.reduceMul, ↓reduceIte, Int.reduceGT, Int.reduceGE, f2, f3, f7]
      intro i hi
      rcases Nat.lt_or_ge i j with h | h
      · exact he i h
      · have : i = j := by omega
        subst this; exact hx
  · rintro F h ⟨f2, f3, f7, he, rfl⟩
    simp (disch := first | omega | (simp only [List.length_append, List.length_cons, List.length_nil, length_hset, length_hkill]; omega)) only [↓fsPre, fsPost, fsCond, fsGen, npick, nbin, nun, nconv, nnilCheck, noff, nidxArr, nidxSl, nfield, npart, nindex, nextract, nlenSl, nlenStr, ncap, mmx, minmax2, nslice, nsliceArr, nbounds, obound, bound, adv, nbits, eqVal, eqCell, eqCells, nfill, lenOfSl, cls, fresults, fresl, fres1, gt_iff_lt, ge_iff_le, reduceCtorEq, Nat.reduceAdd, Nat.reduceMul, Nat.reduceSub, Nat.reduceLT, Nat.reduceLeDiff, Nat.reduceEqDiff, Nat.reduceBEq, Nat.reduceBNe, Int.reduceLT, Int.reduceLE, Int.reduceEq, Int.reduceNe, Int.reduceAdd, Int.reduceSub, Int.reduceNeg, Int.reduceToNat, Int.reduceMul, ↓reduceIte, Int.reduceGT, Int.reduceGE, f2, f3, f7]
    exact ⟨by rw [cmpP_all he], _, rfl⟩

/-- Pairs as they lie in a list that is copied. -/
def GrE (h : Heap) (C : List NV) (v : NV) : Prop :=
  (C = [] ∧ ∃ A, v = .slice A 0 (.fix 0)) ∨ ∃ b k, v = .slice (some (b, 0)) k (.opn 9) ∧ hget h b = some (.cells C false) ∧ C.length = k * 9 ∧ 0 < k
theorem GrE.one {h : Heap} {C : List NV} {v : NV} (g : GrE h C v) : v.one = true := by
  rcases g with ⟨_, A, rfl⟩ | ⟨b, k, rfl, _⟩ <;> rfl
theorem GrE.mono {h h' : Heap} {C : List NV} {v : NV} (g : GrE h C v) (e : ∀ b, b < h.length → hget h' b = hget h b) : GrE h' C v := by
  rcases g with g | ⟨b, k, h1, h2, h3⟩
  · exact .inl g
  · exact .inr ⟨b, k, h1, by rw [e b (hget_lt h2)]; exact h2, h3⟩
theorem cut_sub {cs x : List NV} {o n k : Nat} (h : cut cs o n = some x) (hk : k ≤ n) : cut cs o k = some (x.take k) := by
  unfold cut at h ⊢
  split at h
  · cases h
    rw [if_pos (by omega), List.take_take, Nat.min_eq_left hk]
  · cases h
/-- The list of an index. -/
theorem GrE.prs {h : Heap} {L : List (Pt × Int)} {v : NV} (g : GrE h (L.flatMap prC) v) : ∃ A c, v = .slice A L.length c ∧ (c = .fix 0 ∧ L = [] ∨ c = .opn 9 ∧ 0 < L.length ∧ ∃ b, A = some (b, 0) ∧ hget h b = some (.cells (L.flatMap prC) false)) := by
  rcases g with ⟨h1, A, rfl⟩ | ⟨b, k, rfl, h2, h3, h4⟩
  · have : L = [] := by
      cases L with
      | nil => rfl
      | cons a l => simp [prC] at h1
    subst this
    exact ⟨A, _, rfl, .inl ⟨rfl, rfl⟩⟩
  · rw [prs_length] at h3
    have : k = L.length := by omega
    subst this
    exact ⟨_, _, rfl, .inr ⟨rfl, h4, b, rfl, h2⟩⟩
theorem prs_pt {L : List (Pt × Int)} {j : Nat} (hj : j < L.length) : cut (L.flatMap prC) (j * 9) 8 = some (ptC L[j].1) := by
  rw [cut_sub (cut_flatMap prC_length hj) (by omega)]; rfl
theorem eq_pt (p q : Pt) : eqCells [.int, .int, .int, .int, .int, .int, .int, .int] (ptC p) (ptC q) = some (decide (p = q)) := eqCells_pt p q

set_option maxHeartbeats 1000000 in
theorem place_ok (H : Heap) (q : Nat) (sl : NV) (L : List (Pt × Int)) (p : Pt) (hq : hget H q = some (.cells [sl] false)) (hg : GrE H (L.flatMap prC) sl) (hL : L.length ≤ 100) :
    NCall Try.prog 22 [.ptr (some (q, 0)), .agg (ptC p)] H fun r => r = (.tup [.int .i64 (placeP L p), .bool (thereP L p)], H) := by
  have lq := hget_some_lt hq
  refine call_pure E0 mixed t22_ok (by kernel_rfl) ⟨trivial, trivial, trivial⟩ ?_
  obtain ⟨A, c, rfl, hAc⟩ := hg.prs
  simp only [t22]
  simp (disch := first | omega | (simp only [List.length_append, List.length_cons, List.length_nil, length_hset, length_hkill]; omega)) only [↓fsPre, fsPost, fsCond, fsGen, npick, nbin, nun, nconv, nnilCheck, noff, nidxArr, nidxSl, nfield, npart, nindex, nextract, nlenSl, nlenStr, ncap, mmx, minmax2, nslice, nsliceArr, nbounds, obound, bound, adv, nbits, eqVal, eqCell, eqCells, nfill, lenOfSl, cls, fresults, fresl, fres1, gt_iff_lt, ge_iff_le, reduceCtorEq, Nat.reduceAdd, Nat.reduceMul, Nat.reduceSub, Nat.reduceLT, Nat.reduceLeDiff, Nat.reduceEqDiff, Nat.reduceBEq, Nat.reduceBNe, Int.reduceLT, Int.reduceLE, Int.reduceEq, Int.reduceNe, Int.reduceAdd, Int.reduceSub, Int.reduceNeg, Int.reduceToNat, Int.reduceMul, ↓reduceIte, Int.reduceGT, Int.reduceGE, ptC_one]
  have hle := placeP_le L p
  refine wloop (fun j F h => F 0 = .ptr (some (q, 0)) ∧ F 3 = .ptr (some (H.length, 0)) ∧ F 6 = .int .i64 j ∧ h = H ++ [some (.cells (ptC p) false)]) (placeP L p) ?_ ?_ ?_
  · simp (disch := first | omega | (simp only [List.length_append, List.length_cons, List.length_nil, length_hset, length_hkill]; omega)) only [↓fsPre, fsPost, fsCond, fsGen, npick, nbin, nun, nconv, nnilCheck, noff, nidxArr, nidxSl, nfield, npart, nindex, nextract, nlenSl, nlenStr, ncap, mmx, minmax2, nslice, nsliceArr, nbounds, obound, bound, adv, nbits, eqVal, eqCell, eqCells, nfill, lenOfSl, cls, fresults, fresl, fres1, gt_iff_lt, ge_iff_le, reduceCtorEq, Nat.reduceAdd, Nat.reduceMul, Nat.reduceSub, Nat.reduceLT, Nat.reduceLeDiff, Nat.reduceEqDiff, Nat.reduceBEq, Nat.reduceBNe, Int.reduceLT, Int.reduceLE, Int.reduceEq, Int.reduceNe, Int.reduceAdd, Int.reduceSub, Int.reduceNeg, Int.reduceToNat, Int.reduceMul, ↓reduceIte, Int.reduceGT, Int.reduceGE]
  · rintro j F h hj ⟨f0, f3, f6, rfl⟩
    rcases hAc with ⟨_, rfl⟩ | ⟨rfl, hp0, b, rfl, hb⟩
    · exact absurd hj (by simp [placeP])
    have hbl := hget_some_lt hb
    have hd : decide ((j : Int) < (L.length : Int)) = true := by simp; omega
    have hc := prs_pt (L := L) (j := j) (by omega)
    have hlt := placeP_lt L p j (by omega) hj
    simp (disch := first | omega | (simp only [List.length_append, List.length_cons, List.length_nil, length_hset, length_hkill]; omega)) only [↓fsPre, fsPost, fsCond, fsGen, npick, nbin, nun, nconv, nnilCheck, noff, nidxArr, nidxSl, nfield, npart, nindex, nextract, nlenSl, nlenStr, ncap, mmx, minmax2, nslice, nsliceArr, nbounds, obound, bound, adv, nbits, eqVal, eqCell, eqCells, nfill, lenOfSl, cls, fresults, fresl, fres1, gt_iff_lt, ge_iff_le, reduceCtorEq, Nat.reduceAdd, Nat.reduceMul, Nat.reduceSub, Nat.reduceLT, Nat.reduceLeDiff, Nat.reduceEqDiff, Nat.reduceBEq, Nat.reduceBNe, Int.reduceLT, Int.reduceLE, Int.reduceEq, Int.reduceNe, Int.reduceAdd, Int.reduceSub, Int.reduceNeg, Int.reduceToNat, Int.reduceMul, ↓reduceIte, Int.reduceGT, Int.reduceGE, f0, f3, f6, hq, hb, hd, hc, ptC_one, ptC_cut]
    refine callDT_one (rcompare_ok _ _ _) rfl ?_
    have hcm : decide (cmpP L[j].1 p < 0) = true := by simp [cmpP_neg, hlt]
    simp (disch := first | omega | (simp only [List.length_append, List.length_cons, List.length_nil, length_hset, length_hkill]; omega)) only [↓fsPre, fsPost, fsCond, fsGen, npick, nbin, nun, nconv, nnilCheck, noff, nidxArr, nidxSl, nfield, npart, nindex, nextract, nlenSl, nlenStr, ncap, mmx, minmax2, nslice, nsliceArr, nbounds, obound, bound, adv, nbits, eqVal, eqCell, eqCells, nfill, lenOfSl, cls, fresults, fresl, fres1, gt_iff_lt, ge_iff_le, reduceCtorEq, Nat.reduceAdd, Nat.reduceMul, Nat.reduceSub, Nat.reduceLT, Nat.reduceLeDiff, Nat.reduceEqDiff, Nat.reduceBEq, Nat.reduceBNe, Int.reduceLT, Int.reduceLE, Int.reduceEq, Int.reduceNe, Int.reduceAdd, Int.reduceSub, Int.reduceNeg, Int.reduceToNat, Int.reduceMul, ↓reduceIte, Int.reduceGT, Int.reduceGE, f0, f3, f6, hcm]
  · rintro F h ⟨f0, f3, f6, rfl⟩
    by_cases hend : placeP L p < L.length
    · rcases hAc with ⟨_, rfl⟩ | ⟨rfl, hp0, b, rfl, hb⟩
      · simp at hend
      have hbl := hget_some_lt hb
      have hd : decide ((placeP L p : Int) < (L.length : Int)) = true := by simp; omega
      have hc := prs_pt hend
      have hlt := placeP_at L p hend
      have hth : thereP L p = decide (L[placeP L p].1 = p) := by unfold thereP; rw [List.getElem?_eq_getElem hend]
      rw [hth]
      generalize placeP L p = i at *
      simp (disch := first | omega | (simp only [List.length_append, List.length_cons, List.length_nil, length_hset, length_hkill]; omega)) only [↓fsPre, fsPost, fsCond, fsGen, npick, nbin, nun, nconv, nnilCheck, noff, nidxArr, nidxSl, nfield, npart, nindex, nextract, nlenSl, nlenStr, ncap, mmx, minmax2, nslice, nsliceArr, nbounds, obound, bound, adv, nbits, eqVal, eqCell, eqCells, nfill, lenOfSl, cls, fresults, fresl, fres1, gt_iff_lt, ge_iff_le, reduceCtorEq, Nat.reduceAdd, Nat.reduceMul, Nat.reduceSub, Nat.reduceLT, Nat.reduceLeDiff, Nat.reduceEqDiff, Nat.reduceBEq, Nat.reduceBNe, Int.reduceLT, Int.reduceLE, Int.reduceEq, Int.reduceNe, Int.reduceAdd, Int.reduceSub, Int.reduceNeg, Int.reduceToNat, Int.reduceMul, ↓reduceIte, Int.reduceGT, Int.reduceGE, f0, f3, f6, hq, hb, hd, hc, ptC_one, ptC_cut]
      refine callDT_one (rcompare_ok _ _ _) rfl ?_
      have hcm : decide (cmpP L[i].1 p < 0) = false := by simp only [cmpP_neg]; simpa using hlt
      simp (disch := first | omega | (simp only [List.length_append, List.length_cons, List.length_nil, length_hset, length_hkill]; omega)) only [↓fsPre, fsPost, fsCond, fsGen, npick, nbin, nun, nconv, nnilCheck, noff, nidxArr, nidxSl, nfield, npart, nindex, nextract, nlenSl, nlenStr, ncap, mmx, minmax2, nslice, nsliceArr, nbounds, obound, bound, adv, nbits, eqVal, eqCell, eqCells, nfill, lenOfSl, cls, fresults, fresl, fres1, gt_iff_lt, ge_iff_le, reduceCtorEq, Nat.reduceAdd, Nat.reduceMul, Nat.reduceSub, Nat.reduceLT, Nat.reduceLeDiff, Nat.reduceEqDiff, Nat.reduceBEq, Nat.reduceBNe, Int.reduceLT, Int.reduceLE, Int.reduceEq, Int.reduceNe, Int.reduceAdd, Int.reduceSub, Int.reduceNeg, Int.reduceToNat, Int.reduceMul, ↓reduceIte, Int.reduceGT, Int.reduceGE, f0, f3, f6, hq, hb, hd, hc, ptC_one, ptC_cut, hcm, eq_pt]
      exact ⟨_, rfl⟩
    · have hd : decide ((placeP L p : Int) < (L.length : Int)) = false := by simp; omega
      have hth : thereP L p = false := by unfold thereP; rw [List.getElem?_eq_none (by omega)]
      rw [hth]
      simp (disch := first | omega | (simp only [List.length_append, List.length_cons, List.length_nil, length_hset, length_hkill]; omega)) only [↓fsPre, fsPost, fsCond, fsGen, npick, nbin, nun, nconv, nnilCheck, noff, nidxArr, nidxSl, nfield, npart, nindex, nextract, nlenSl, nlenStr, ncap, mmx, minmax2, nslice, nsliceArr, nbounds, obound, bound, adv, nbits, eqVal, eqCell, eqCells, nfill, lenOfSl, cls, fresults, fresl, fres1, gt_iff_lt, ge_iff_le, reduceCtorEq, Nat.reduceAdd, Nat.reduceMul, Nat.reduceSub, Nat.reduceLT, Nat.reduceLeDiff, Nat.reduceEqDiff, Nat.reduceBEq, Nat.reduceBNe, Int.reduceLT, Int.reduceLE, Int.reduceEq, Int.reduceNe, Int.reduceAdd, Int.reduceSub, Int.reduceNeg, Int.reduceToNat, Int.reduceMul, ↓reduceIte, Int.reduceGT, Int.reduceGE, f0, f3, f6, hq, hd]
      exact ⟨_, rfl⟩
end Go.Proofs
