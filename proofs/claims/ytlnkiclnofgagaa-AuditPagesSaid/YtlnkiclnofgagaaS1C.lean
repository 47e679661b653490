/- Audit: the log of the law, and the law. -/
import Derived.Test.YtlnkiclnofgagaaS1B
set_option linter.unusedSimpArgs false
set_option linter.unusedVariables false
set_option maxRecDepth 10000
namespace Go.Proofs
open Go.Ns

/-- The records of the law: record 'k' for the number 'x'. -/
def roleOf (x : Int) : Int := match Int.tmod x 4 with | 0 => 1 | 1 => 2 | 2 => 7 | _ => 9
def mkRec (k : Nat) (x : Int) : Rec := ⟨k + 1, Int.tmod k 5, roleOf x, Int.tmod (Int.tdiv x 4) 7, 0, k, 0⟩
def rawRec (k : Nat) (x : Int) : Rec := ⟨x, Int.tmod k 5, roleOf x, Int.tmod (Int.tdiv x 4) 7, 0, k, 0⟩
def allRecs (xs : List Int) : List Rec := xs.mapIdx mkRec
theorem allRecs_length (xs : List Int) : (allRecs xs).length = xs.length := by simp [allRecs]
theorem allRecs_snoc (xs : List Int) (x : Int) : allRecs (xs ++ [x]) = allRecs xs ++ [mkRec xs.length x] := by
  simp [allRecs, List.mapIdx_append]
def last24 (rs : List Rec) : List Rec := rs.drop (rs.length - 24)
theorem last24_length (rs : List Rec) : (last24 rs).length = rs.length - (rs.length - 24) := by simp [last24]
theorem last24_snoc (rs : List Rec) (r : Rec) : last24 (rs ++ [r]) = kept (last24 rs) ++ [r] := by
  unfold last24 kept
  simp only [List.length_append, List.length_singleton, List.length_drop]
  rw [List.drop_append, List.drop_drop]
  have : rs.length + 1 - 24 - rs.length = 0 := by omega
  rw [this, List.drop_zero]
  congr 2
  omega

def RecsFrom (n : Nat) (H : Heap) (v : NV) (rs : List Rec) : Prop :=
  (v = .slice none 0 (.fix 0) ∧ rs = []) ∨ ∃ b, v = .slice (some (b, 0)) rs.length (.opn 7) ∧ n ≤ b ∧ hget H b = some (.cells (recs rs) false)
theorem RecsFrom.at {n : Nat} {H : Heap} {v : NV} {rs : List Rec} (h : RecsFrom n H v rs) : RecsAt H v rs := by
  rcases h with h | ⟨b, h1, _, h2⟩
  · exact .inl h
  · exact .inr ⟨b, h1, h2⟩
theorem RecsFrom.app {n : Nat} {H L : Heap} {v : NV} {rs : List Rec} (h : RecsFrom n H v rs) : RecsFrom n (H ++ L) v rs := by
  rcases h with h | ⟨b, h1, h2, h3⟩
  · exact .inl h
  · exact .inr ⟨b, h1, h2, by rw [hget_appl (hget_lt h3)]; exact h3⟩
theorem RecsFrom.set {n c : Nat} {H : Heap} {v : NV} {rs : List Rec} {x : NBlk} (h : RecsFrom n H v rs) (hc : c < n) : RecsFrom n (hset H c x) v rs := by
  rcases h with h | ⟨b, h1, h2, h3⟩
  · exact .inl h
  · exact .inr ⟨b, h1, h2, by rw [hget_hset_ne (by omega)]; exact h3⟩

/-- The bytes of an argument. -/
def BytesAt (H : Heap) (v : NV) (xs : List Int) : Prop := ∃ b n c cs ro, v = .slice (some (b, 0)) n c ∧ hget H b = some (.cells cs ro) ∧ n = xs.length ∧ n ≤ cs.length ∧ (∀ i (hi : i < xs.length), cs[i]? = some (.int .u8 xs[i])) ∧ (∀ x ∈ xs, 0 ≤ x ∧ x ≤ 255)

def logQ (H : Heap) (xs : List Int) (q : NV × Heap) : Prop :=
  ∃ s1 s2, q.1 = .tup [.agg [.int .i64 (if xs.length = 0 then 0 else xs.length + 1), s1], .agg [s2]] ∧ RecsFrom H.length q.2 s1 (last24 (allRecs xs)) ∧ RecsFrom H.length q.2 s2 (allRecs xs) ∧ H.length ≤ q.2.length ∧ ∀ b, b < H.length → hget q.2 b = hget H b

theorem tmod_bounds (x : Int) (n : Int) (h0 : 0 ≤ x) (hn : 0 < n) : 0 ≤ Int.tmod x n ∧ Int.tmod x n < n := ⟨Int.tmod_nonneg _ h0, Int.tmod_lt_of_pos _ hn⟩

theorem role_at (x : Int) (h0 : 0 ≤ x) : ([NV.int .i64 1, .int .i64 2, .int .i64 7, .int .i64 9] : List NV)[(Int.tmod x 4).toNat]? = some (.int .i64 (roleOf x)) := by
  obtain ⟨h1, h2⟩ := tmod_bounds x 4 h0 (by omega)
  unfold roleOf
  have : Int.tmod x 4 = 0 ∨ Int.tmod x 4 = 1 ∨ Int.tmod x 4 = 2 ∨ Int.tmod x 4 = 3 := by omega
  rcases this with e | e | e | e <;> rw [e] <;> rfl

structure LogI (H : Heap) (b N : Nat) (k : Cap) (xs : List Int) (j : Nat) (F : FF) (h : Heap) : Prop where
  f2 : F 2 = .ptr (some (H.length, 0))
  f3 : F 3 = .ptr (some (H.length + 1, 0))
  f4 : F 4 = .ptr (some (H.length + 2, 0))
  f5 : F 5 = .ptr (some (H.length + 3, 0))
  f13 : F 13 = .slice (some (b, 0)) N k
  f14 : F 14 = .int .i64 N
  f15 : F 15 = .int .i64 j
  len : H.length + 4 ≤ h.length
  old : ∀ c, c < H.length → hget h c = hget H c
  b0 : hget h H.length = some (.cells [.int .i64 0, .slice none 0 (.fix 0)] false)
  b1 : hget h (H.length + 1) = some (.cells [.slice none 0 (.fix 0)] false)
  st : ∃ s1 s2, hget h (H.length + 2) = some (.cells [.int .i64 (if j = 0 then 0 else j + 1), s1] false) ∧ hget h (H.length + 3) = some (.cells [s2] false) ∧ s1.one = true ∧ s2.one = true ∧
    RecsFrom (H.length + 4) h s1 (last24 (allRecs (xs.take j))) ∧ RecsFrom (H.length + 4) h s2 (allRecs (xs.take j))

theorem log_ok (H : Heap) (b n m : Nat) (cs : List NV) (ro : Bool) (xs : List Int) (hb : hget H b = some (.cells cs ro)) (hn : n = xs.length) (hcs : ∀ i (hi : i < xs.length), cs[i]? = some (.int .u8 xs[i])) (hx : ∀ x ∈ xs, 0 ≤ x ∧ x ≤ 255)
    (hm : n ≤ m) (hm2 : m ≤ 9223372036854775807) : DCall Try.prog 10 [.slice (some (b, 0)) n (.fix m)] H (logQ H (xs.take 60)) := by
  have hbl := hget_some_lt hb
  refine call_det E0 rfl mixed t10_ok (by kernel_rfl) (by rintro q ⟨_, _, _, _, _, h, _⟩; exact h) ?_
  simp only [t10]
  have hN : (if (60 : Int) < n then (60 : Int) else n) = (min n 60 : Nat) := by split <;> omega
  have hN1 : min n 60 ≤ n := by omega
  have hN2 : min n 60 ≤ 60 := by omega
  generalize hNd : min n 60 = N at *
  simp (disch := first | omega | (simp only [List.length_append, List.length_cons, List.length_nil, length_hset, length_hkill]; omega)) only [↓fsPre, fsPost, fsCond, fsGen, npick, nbin, nun, nconv, nnilCheck, noff, nidxArr, nidxSl, nfield, npart, nindex, nextract, nlenSl, nlenStr, ncap, mmx, minmax2, nslice, nsliceArr, nbounds, obound, bound, adv, nbits, eqVal, eqCell, eqCells, nfill, lenOfSl, cls, fresults, fresl, fres1, gt_iff_lt, ge_iff_le, reduceCtorEq, Nat.reduceAdd, Nat.reduceMul, Nat.reduceSub, Nat.reduceLT, Nat.reduceLeDiff, Nat.reduceEqDiff, Nat.reduceBEq, Nat.reduceBNe, Int.reduceLT, Int.reduceLE, Int.reduceEq, Int.reduceNe, Int.reduceAdd, Int.reduceSub, Int.reduceNeg, Int.reduceToNat, Int.reduceMul, ↓reduceIte, Int.reduceGT, Int.reduceGE, hN, Nat.sub_zero]
  refine wloop (LogI H b N (.fix m) xs) N ?_ ?_ ?_
  · constructor <;> (try simp (disch := first | omega | (simp only [List.length_append, List.length_cons, List.length_nil, length_hset, length_hkill]; omega)) only [↓fsPre, fsPost, fsCond, fsGen, npick, nbin, nun, nconv, nnilCheck, noff, nidxArr, nidxSl, nfield, npart, nindex, nextract, nlenSl, nlenStr, ncap, mmx, minmax2, nslice, nsliceArr, nbounds, obound, bound, adv, nbits, eqVal, eqCell, eqCells, nfill, lenOfSl, cls, fresults, fresl, fres1, gt_iff_lt, ge_iff_le, reduceCtorEq, Nat.reduceAdd, Nat.reduceMul, Nat.reduceSub, Nat.reduceLT, Nat.reduceLeDiff, Nat.reduceEqDiff, Nat.reduceBEq, Nat.reduceBNe, Int.reduceLT, Int.reduceLE, Int.reduceEq, Int.reduceNe, Int.reduceAdd, Int.reduceSub, Int.reduceNeg, Int.reduceToNat, Int.reduceMul, ↓reduceIte, Int.reduceGT, Int.reduceGE])
    · exact fun c hc => hget_appl hc
    · exact ⟨_, _, rfl, rfl, rfl, rfl, .inl ⟨rfl, by simp [allRecs, last24]⟩, .inl ⟨rfl, by simp [allRecs]⟩⟩
  · rintro j F h hj ⟨f2, f3, f4, f5, f13, f14, f15, len, old, b0, b1, s1, s2, c2, c3, o1, o2, r1, r2⟩
    have hjx : j < xs.length := by omega
    have e1 : hget h b = some (.cells cs ro) := by rw [old b hbl]; exact hb
    have e2 := hcs j hjx
    obtain ⟨g1, g2⟩ := hx _ (List.getElem_mem hjx)
    generalize hxj : xs[j] = x at *
    obtain ⟨m1, m2⟩ := tmod_bounds x 4 g1 (by omega)
    have q1 : 0 ≤ Int.tdiv x 4 := Int.tdiv_nonneg g1 (by omega)
    have q2 : Int.tdiv x 4 ≤ 255 := Int.le_trans (Int.tdiv_le_self _ g1) g2
    obtain ⟨m3, m4⟩ := tmod_bounds (Int.tdiv x 4) 7 q1 (by omega)
    obtain ⟨m5, m6⟩ := tmod_bounds j 5 (by omega) (by omega)
    generalize hnx : (if j = 0 then (0 : Int) else (j : Int) + 1) = nx at c2
    have hnum : (if 1 < nx then nx else 1) = (j : Int) + 1 := by
      rw [← hnx]
      by_cases h0 : j = 0
      · subst h0; rfl
      · rw [if_neg h0, if_pos (by omega)]
    have hnb : 0 ≤ nx ∧ nx ≤ 1000 := by rw [← hnx]; split <;> omega
    simp (disch := first | omega | (simp only [List.length_append, List.length_cons, List.length_nil, length_hset, length_hkill]; omega)) only [↓fsPre, fsPost, fsCond, fsGen, npick, nbin, nun, nconv, nnilCheck, noff, nidxArr, nidxSl, nfield, npart, nindex, nextract, nlenSl, nlenStr, ncap, mmx, minmax2, nslice, nsliceArr, nbounds, obound, bound, adv, nbits, eqVal, eqCell, eqCells, nfill, lenOfSl, cls, fresults, fresl, fres1, gt_iff_lt, ge_iff_le, reduceCtorEq, Nat.reduceAdd, Nat.reduceMul, Nat.reduceSub, Nat.reduceLT, Nat.reduceLeDiff, Nat.reduceEqDiff, Nat.reduceBEq, Nat.reduceBNe, Int.reduceLT, Int.reduceLE, Int.reduceEq, Int.reduceNe, Int.reduceAdd, Int.reduceSub, Int.reduceNeg, Int.reduceToNat, Int.reduceMul, ↓reduceIte, Int.reduceGT, Int.reduceGE, f2, f3, f4, f5, f13, f14, f15, e1, e2, role_at x g1, c2, c3]
    have htj : (xs.take j).length = j := by simp; omega
    have htk : xs.take (j + 1) = xs.take j ++ [x] := by rw [List.take_add_one, List.getElem?_eq_getElem hjx, hxj]; rfl
    have hl24 : (last24 (allRecs (xs.take j))).length ≤ 24 := by rw [last24_length]; omega
    refine callDT_one (append_ok _ _ _ (last24 (allRecs (xs.take j))) (rawRec j x) r1.app.at hl24 hnb) rfl ?_
    simp (disch := first | omega | (simp only [List.length_append, List.length_cons, List.length_nil, length_hset, length_hkill]; omega)) only [↓fsPre, fsPost, fsCond, fsGen, npick, nbin, nun, nconv, nnilCheck, noff, nidxArr, nidxSl, nfield, npart, nindex, nextract, nlenSl, nlenStr, ncap, mmx, minmax2, nslice, nsliceArr, nbounds, obound, bound, adv, nbits, eqVal, eqCell, eqCells, nfill, lenOfSl, cls, fresults, fresl, fres1, gt_iff_lt, ge_iff_le, reduceCtorEq, Nat.reduceAdd, Nat.reduceMul, Nat.reduceSub, Nat.reduceLT, Nat.reduceLeDiff, Nat.reduceEqDiff, Nat.reduceBEq, Nat.reduceBNe, Int.reduceLT, Int.reduceLE, Int.reduceEq, Int.reduceNe, Int.reduceAdd, Int.reduceSub, Int.reduceNeg, Int.reduceToNat, Int.reduceMul, ↓reduceIte, Int.reduceGT, Int.reduceGE, f2, f3, f4, f5, hnum, c2, c3]
    refine callDT_one (refappend_ok _ _ (allRecs (xs.take j)) (rawRec j x) r2.app.at (by rw [allRecs_length, htj]; omega)) rfl ?_
    simp (disch := first | omega | (simp only [List.length_append, List.length_cons, List.length_nil, length_hset, length_hkill]; omega)) only [↓fsPre, fsPost, fsCond, fsGen, npick, nbin, nun, nconv, nnilCheck, noff, nidxArr, nidxSl, nfield, npart, nindex, nextract, nlenSl, nlenStr, ncap, mmx, minmax2, nslice, nsliceArr, nbounds, obound, bound, adv, nbits, eqVal, eqCell, eqCells, nfill, lenOfSl, cls, fresults, fresl, fres1, gt_iff_lt, ge_iff_le, reduceCtorEq, Nat.reduceAdd, Nat.reduceMul, Nat.reduceSub, Nat.reduceLT, Nat.reduceLeDiff, Nat.reduceEqDiff, Nat.reduceBEq, Nat.reduceBNe, Int.reduceLT, Int.reduceLE, Int.reduceEq, Int.reduceNe, Int.reduceAdd, Int.reduceSub, Int.reduceNeg, Int.reduceToNat, Int.reduceMul, ↓reduceIte, Int.reduceGT, Int.reduceGE, f2, f3, f4, f5, hnum, c2, c3, o1, o2, f15]
    have hk1 : last24 (allRecs (xs.take (j + 1))) = kept (last24 (allRecs (xs.take j))) ++ [(rawRec j x).withNum (j + 1)] := by
      rw [htk, allRecs_snoc, htj, last24_snoc]; rfl
    have hk2 : allRecs (xs.take (j + 1)) = allRecs (xs.take j) ++ [(rawRec j x).withNum (j + 1)] := by
      rw [htk, allRecs_snoc, htj]; rfl
    constructor <;> (try simp (disch := first | omega | (simp only [List.length_append, List.length_cons, List.length_nil, length_hset, length_hkill]; omega)) only [↓fsPre, fsPost, fsCond, fsGen, npick, nbin, nun, nconv, nnilCheck, noff, nidxArr, nidxSl, nfield, npart, nindex, nextract, nlenSl, nlenStr, ncap, mmx, minmax2, nslice, nsliceArr, nbounds, obound, bound, adv, nbits, eqVal, eqCell, eqCells, nfill, lenOfSl, cls, fresults, fresl, fres1, gt_iff_lt, ge_iff_le, reduceCtorEq, Nat.reduceAdd, Nat.reduceMul, Nat.reduceSub, Nat.reduceLT, Nat.reduceLeDiff, Nat.reduceEqDiff, Nat.reduceBEq, Nat.reduceBNe, Int.reduceLT, Int.reduceLE, Int.reduceEq, Int.reduceNe, Int.reduceAdd, Int.reduceSub, Int.reduceNeg, Int.reduceToNat, Int.reduceMul, ↓reduceIte, Int.reduceGT, Int.reduceGE, f2, f3, f4, f5, f13, f14, f15, b0, b1]) <;> (try omega)
    · intro c hc
      simp (disch := first | omega | (simp only [List.length_append, List.length_cons, List.length_nil, length_hset, length_hkill]; omega)) only [↓fsPre, fsPost, fsCond, fsGen, npick, nbin, nun, nconv, nnilCheck, noff, nidxArr, nidxSl, nfield, npart, nindex, nextract, nlenSl, nlenStr, ncap, mmx, minmax2, nslice, nsliceArr, nbounds, obound, bound, adv, nbits, eqVal, eqCell, eqCells, nfill, lenOfSl, cls, fresults, fresl, fres1, gt_iff_lt, ge_iff_le, reduceCtorEq, Nat.reduceAdd, Nat.reduceMul, Nat.reduceSub, Nat.reduceLT, Nat.reduceLeDiff, Nat.reduceEqDiff, Nat.reduceBEq, Nat.reduceBNe, Int.reduceLT, Int.reduceLE, Int.reduceEq, Int.reduceNe, Int.reduceAdd, Int.reduceSub, Int.reduceNeg, Int.reduceToNat, Int.reduceMul, ↓reduceIte, Int.reduceGT, Int.reduceGE]
      exact old c hc
    · refine ⟨_, _, rfl, rfl, rfl, rfl, ?_, ?_⟩
      · refine .inr ⟨h.length + 2, by rw [hk1]; simp, by omega, ?_⟩
        rw [hk1]
        simp (disch := first | omega | (simp only [List.length_append, List.length_cons, List.length_nil, length_hset, length_hkill]; omega)) only [↓fsPre, fsPost, fsCond, fsGen, npick, nbin, nun, nconv, nnilCheck, noff, nidxArr, nidxSl, nfield, npart, nindex, nextract, nlenSl, nlenStr, ncap, mmx, minmax2, nslice, nsliceArr, nbounds, obound, bound, adv, nbits, eqVal, eqCell, eqCells, nfill, lenOfSl, cls, fresults, fresl, fres1, gt_iff_lt, ge_iff_le, reduceCtorEq, Nat.reduceAdd, Nat.reduceMul, Nat.reduceSub, Nat.reduceLT, Nat.reduceLeDiff, Nat.reduceEqDiff, Nat.reduceBEq, Nat.reduceBNe, Int.reduceLT, Int.reduceLE, Int.reduceEq, Int.reduceNe, Int.reduceAdd, Int.reduceSub, Int.reduceNeg, Int.reduceToNat, Int.reduceMul, ↓reduceIte, Int.reduceGT, Int.reduceGE]
      · refine .inr ⟨h.length + 3, by rw [hk2]; simp [allRecs_length, htj], by omega, ?_⟩
        rw [hk2]
        simp (disch := first | omega | (simp only [List.length_append, List.length_cons, List.length_nil, length_hset, length_hkill]; omega)) only [↓fsPre, fsPost, fsCond, fsGen, npick, nbin, nun, nconv, nnilCheck, noff, nidxArr, nidxSl, nfield, npart, nindex, nextract, nlenSl, nlenStr, ncap, mmx, minmax2, nslice, nsliceArr, nbounds, obound, bound, adv, nbits, eqVal, eqCell, eqCells, nfill, lenOfSl, cls, fresults, fresl, fres1, gt_iff_lt, ge_iff_le, reduceCtorEq, Nat.reduceAdd, Nat.reduceMul, Nat.reduceSub, Nat.reduceLT, Nat.reduceLeDiff, Nat.reduceEqDiff, Nat.reduceBEq, Nat.reduceBNe, Int.reduceLT, Int.reduceLE, Int.reduceEq, Int.reduceNe, Int.reduceAdd, Int.reduceSub, Int.reduceNeg, Int.reduceToNat, Int.reduceMul, ↓reduceIte, Int.reduceGT, Int.reduceGE, allRecs_length, htj]
  · rintro F h ⟨f2, f3, f4, f5, f13, f14, f15, len, old, b0, b1, s1, s2, c2, c3, o1, o2, r1, r2⟩
    simp (disch := first | omega | (simp only [List.length_append, List.length_cons, List.length_nil, length_hset, length_hkill]; omega)) only [↓fsPre, fsPost, fsCond, fsGen, npick, nbin, nun, nconv, nnilCheck, noff, nidxArr, nidxSl, nfield, npart, nindex, nextract, nlenSl, nlenStr, ncap, mmx, minmax2, nslice, nsliceArr, nbounds, obound, bound, adv, nbits, eqVal, eqCell, eqCells, nfill, lenOfSl, cls, fresults, fresl, fres1, gt_iff_lt, ge_iff_le, reduceCtorEq, Nat.reduceAdd, Nat.reduceMul, Nat.reduceSub, Nat.reduceLT, Nat.reduceLeDiff, Nat.reduceEqDiff, Nat.reduceBEq, Nat.reduceBNe, Int.reduceLT, Int.reduceLE, Int.reduceEq, Int.reduceNe, Int.reduceAdd, Int.reduceSub, Int.reduceNeg, Int.reduceToNat, Int.reduceMul, ↓reduceIte, Int.reduceGT, Int.reduceGE, f2, f3, f4, f5, f13, f14, f15, c2, c3, b0, b1, o1, o2]
    have hlen : (xs.take 60).length = N := by simp; omega
    have htake : xs.take 60 = xs.take N := by
      rw [List.take_eq_take_iff]; omega
    refine ⟨s1, s2, by rw [hlen], ?_, ?_, ?_, fun c hc => ?_⟩
    · rw [htake]
      rcases r1 with ⟨h1, h2⟩ | ⟨b1, h1, h2, h3⟩
      · exact .inl ⟨h1, h2⟩
      · refine .inr ⟨b1, h1, by omega, ?_⟩
        simp (disch := first | omega | (simp only [List.length_append, List.length_cons, List.length_nil, length_hset, length_hkill]; omega)) only [↓fsPre, fsPost, fsCond, fsGen, npick, nbin, nun, nconv, nnilCheck, noff, nidxArr, nidxSl, nfield, npart, nindex, nextract, nlenSl, nlenStr, ncap, mmx, minmax2, nslice, nsliceArr, nbounds, obound, bound, adv, nbits, eqVal, eqCell, eqCells, nfill, lenOfSl, cls, fresults, fresl, fres1, gt_iff_lt, ge_iff_le, reduceCtorEq, Nat.reduceAdd, Nat.reduceMul, Nat.reduceSub, Nat.reduceLT, Nat.reduceLeDiff, Nat.reduceEqDiff, Nat.reduceBEq, Nat.reduceBNe, Int.reduceLT, Int.reduceLE, Int.reduceEq, Int.reduceNe, Int.reduceAdd, Int.reduceSub, Int.reduceNeg, Int.reduceToNat, Int.reduceMul, ↓reduceIte, Int.reduceGT, Int.reduceGE, h3]
    · rw [htake]
      rcases r2 with ⟨h1, h2⟩ | ⟨b1, h1, h2, h3⟩
      · exact .inl ⟨h1, h2⟩
      · refine .inr ⟨b1, h1, by omega, ?_⟩
        simp (disch := first | omega | (simp only [List.length_append, List.length_cons, List.length_nil, length_hset, length_hkill]; omega)) only [↓fsPre, fsPost, fsCond, fsGen, npick, nbin, nun, nconv, nnilCheck, noff, nidxArr, nidxSl, nfield, npart, nindex, nextract, nlenSl, nlenStr, ncap, mmx, minmax2, nslice, nsliceArr, nbounds, obound, bound, adv, nbits, eqVal, eqCell, eqCells, nfill, lenOfSl, cls, fresults, fresl, fres1, gt_iff_lt, ge_iff_le, reduceCtorEq, Nat.reduceAdd, Nat.reduceMul, Nat.reduceSub, Nat.reduceLT, Nat.reduceLeDiff, Nat.reduceEqDiff, Nat.reduceBEq, Nat.reduceBNe, Int.reduceLT, Int.reduceLE, Int.reduceEq, Int.reduceNe, Int.reduceAdd, Int.reduceSub, Int.reduceNeg, Int.reduceToNat, Int.reduceMul, ↓reduceIte, Int.reduceGT, Int.reduceGE, h3]
    · simp (disch := first | omega | (simp only [List.length_append, List.length_cons, List.length_nil, length_hset, length_hkill]; omega)) only [↓fsPre, fsPost, fsCond, fsGen, npick, nbin, nun, nconv, nnilCheck, noff, nidxArr, nidxSl, nfield, npart, nindex, nextract, nlenSl, nlenStr, ncap, mmx, minmax2, nslice, nsliceArr, nbounds, obound, bound, adv, nbits, eqVal, eqCell, eqCells, nfill, lenOfSl, cls, fresults, fresl, fres1, gt_iff_lt, ge_iff_le, reduceCtorEq, Nat.reduceAdd, Nat.reduceMul, Nat.reduceSub, Nat.reduceLT, Nat.reduceLeDiff, Nat.reduceEqDiff, Nat.reduceBEq, Nat.reduceBNe, Int.reduceLT, Int.reduceLE, Int.reduceEq, Int.reduceNe, Int.reduceAdd, Int.reduceSub, Int.reduceNeg, Int.reduceToNat, Int.reduceMul, ↓reduceIte, Int.reduceGT, Int.reduceGE]; omega
    · simp (disch := first | omega | (simp only [List.length_append, List.length_cons, List.length_nil, length_hset, length_hkill]; omega)) only [↓fsPre, fsPost, fsCond, fsGen, npick, nbin, nun, nconv, nnilCheck, noff, nidxArr, nidxSl, nfield, npart, nindex, nextract, nlenSl, nlenStr, ncap, mmx, minmax2, nslice, nsliceArr, nbounds, obound, bound, adv, nbits, eqVal, eqCell, eqCells, nfill, lenOfSl, cls, fresults, fresl, fres1, gt_iff_lt, ge_iff_le, reduceCtorEq, Nat.reduceAdd, Nat.reduceMul, Nat.reduceSub, Nat.reduceLT, Nat.reduceLeDiff, Nat.reduceEqDiff, Nat.reduceBEq, Nat.reduceBNe, Int.reduceLT, Int.reduceLE, Int.reduceEq, Int.reduceNe, Int.reduceAdd, Int.reduceSub, Int.reduceNeg, Int.reduceToNat, Int.reduceMul, ↓reduceIte, Int.reduceGT, Int.reduceGE]
      exact old c hc
end Go.Proofs
